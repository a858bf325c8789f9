/-
  The walk of pillarboxlaw10.answers.
  The walk of the law EnvDecodes.
  The walk of the law EnvCut.
  The walk of the law EnvEncodes.
-/
import Derived.Test.YtjddicoigbidlaaGreatDoorE6
set_option linter.unusedSimpArgs false
set_option linter.unusedVariables false
namespace Go.Proofs.YtjddicoigbidlaaGreatDoor
open Go.RowKit
/-- A mail in a block of its own, and what its slices hold. -/
structure MailAt (w : World) (M : Nat) (m : MailD) (vr vb : Value) : Prop where
  blk : w.heap[M]? = some (.cells #[.int .i64 m.id, .int .i64 m.parent, .int .i64 m.born, .string (strL m.frm), vr, vb] 25 (0, 0))
  rs : RdS w vr m.rcpts
  rb : RdB w vb m.body
theorem MailAt.below {w w' : World} {M : Nat} {m : MailD} {vr vb : Value} (h : MailAt w M m vr vb) (hb : Below w.heap.size w w') : MailAt w' M m vr vb :=
  ⟨(hb.block _ (Array.getElem?_eq_some_iff.1 h.blk).1).trans h.blk, h.rs.below (Nat.le_refl _) hb, h.rb.below (Nat.le_refl _) hb⟩
theorem MailAt.cells {w : World} {M : Nat} {m : MailD} {vr vb : Value} (h : MailAt w M m vr vb) : w.cell? ⟨M, 0, none⟩ = some (.int .i64 m.id) ∧ w.cell? ⟨M, 1, none⟩ = some (.int .i64 m.parent) ∧ w.cell? ⟨M, 2, none⟩ = some (.int .i64 m.born) ∧ w.cell? ⟨M, 3, none⟩ = some (.string (strL m.frm)) ∧ w.cell? ⟨M, 4, none⟩ = some vr ∧ w.cell? ⟨M, 5, none⟩ = some vb := (cells6 h.blk).1
/-- A mail laid into a new block. -/
theorem MailAt.new {w : World} {m : MailD} {vr vb : Value} (hr : RdS w vr m.rcpts) (hb : RdB w vb m.body) :
    MailAt (w.alloc (.cells #[.int .i64 m.id, .int .i64 m.parent, .int .i64 m.born, .string (strL m.frm), vr, vb] 25)) w.heap.size m vr vb :=
  ⟨heap_alloc_new w _, hr.below (Nat.le_refl _) ((Below.refl _ _).alloc (Nat.le_refl _) _), hb.below (Nat.le_refl _) ((Below.refl _ _).alloc (Nat.le_refl _) _)⟩
/-- What stays of a boxed mail. -/
def MailRest (w0 : World) (X : Nat) (m : MailD) (vr vb : Value) (w : World) : Prop := Below w0.heap.size w0 w ∧ MailAt w X m vr vb
abbrev MailS (w0 : World) (X : Nat) (m : MailD) (vr vb : Value) (w' : World) : Prop :=
  w'.cell? ⟨X, 0, none⟩ = some (.int .i64 m.id) ∧ w'.cell? ⟨X, 1, none⟩ = some (.int .i64 m.parent) ∧ w'.cell? ⟨X, 2, none⟩ = some (.int .i64 m.born) ∧ w'.cell? ⟨X, 3, none⟩ = some (.string (strL m.frm)) ∧ w'.cell? ⟨X, 4, none⟩ = some vr ∧ w'.cell? ⟨X, 5, none⟩ = some vb ∧ MailRest w0 X m vr vb w'
theorem MailS.go {w0 w w' : World} {X : Nat} {m : MailD} {vr vb : Value} (hb : Below w.heap.size w w') (h : MailS w0 X m vr vb w) : MailS w0 X m vr vb w' := by
  obtain ⟨_, _, _, _, _, _, h1, h2⟩ := h
  have h2' := h2.below hb
  exact ⟨h2'.cells.1, h2'.cells.2.1, h2'.cells.2.2.1, h2'.cells.2.2.2.1, h2'.cells.2.2.2.2.1, h2'.cells.2.2.2.2.2, h1.trans (hb.mono h1.size), h2'⟩
theorem rdS_nil {w : World} : RdS w (.slice none 0 0) [] := .inl ⟨_, _, rfl, by decide, rfl⟩
theorem rdB_nil {w : World} : RdB w (.slice none 0 0) [] := .inl ⟨_, _, rfl, by decide, rfl⟩
set_option maxRecDepth 100000 in
set_option maxHeartbeats 8000000 in
theorem envAns_calls (w : World) (hmax : MaxOk w) : Calls Tryz.prog 13 #[] w fun e w' => e = .returned (.bool true) ∧ Below w.heap.size w w' := by
  have hone := fun W => one_calls W
  have hdec := decode_record oneD oneD_small oneD_good []
  rw [List.append_nil] at hdec
  have henc := fun W vr vb h1 h2 h3 h4 h5 h6 => encode_good oneD vr vb W h1 h2 h3 oneD_small h4 oneD_good h5 h6
  have hdc := fun v W h1 h2 => envDecode_calls v oneD.record W h1 (by rw [record_length]; decide) h2
  rw [hdec] at hdc
  have hsm1 := fun ra ba rb bb W h1 h2 h3 h4 => envSame_calls oneD oneD ra ba rb bb W h1 h2 h3 h4
  have hsm2 := fun ra ba rb bb W h1 h2 h3 h4 => envSame_calls oneD MailD.zero ra ba rb bb W h1 h2 h3 h4
  have e1 : decide (oneD = oneD) = true := by simp
  have e2 : decide (oneD = MailD.zero) = false := by kernel_rfl
  have hgd := fun vr vb W h1 h2 h3 => envGood_calls oneD vr vb W h1 h2 (by decide) (by decide) h3
  rw [e1] at hsm1
  rw [e2] at hsm2
  rw [oneD_good] at hgd
  generalize hm : oneD = m at *
  have HL : Hid (m.record.length ≤ 100000000) := by subst hm; show _ ≤ _; rw [record_length]; decide
  clear hm
  have Hone := Lib.hid hone
  have Henc := Lib.hid henc
  have Hdc := Lib.hid hdc
  have Hsm1 := Lib.hid hsm1
  have Hsm2 := Lib.hid hsm2
  have Hgd := Lib.hid hgd
  have Hmax := Lib.hid hmax
  clear hone henc hdc hsm1 hsm2 hgd hmax hdec e1 e2
  go_enter Tryz.func13, Tryz.ntmps13
  go_wp2_with fail
  refine (Hone.out _).mono ?_; rintro e w1 ⟨vr, vb, rfl, hrL, hrT, hnL, hnT, hbL, hbT, hb1⟩
  have hbs1 := hb1.size
  have henc := Henc.out w1 vr vb hrL hrT hnT (Hmax.out.below hb1) (fun k hk => (hbL k hk).2) (fun k hk => (hbT k hk).2)
  have Henc1 := Lib.hid henc
  clear henc hrL hrT hnL hnT hbL hbT
  go_wp2_with fail
  refine (Henc1.out).mono ?_; rintro e w2 ⟨v2, rfl, ho2, hb2⟩
  have hbw2 := hb1.trans (hb2.mono hb1.size)
  have hdec := Hdc.out v2 w2 (rdB_ofOwn ho2) (Hmax.out.below hbw2)
  obtain ⟨a2, c2, hv2⟩ := own_form0 ho2
  subst hv2
  have Hdec := Lib.hid hdec
  clear hdec ho2 Henc1 Henc
  generalize m.record.length = L at *
  have hLL := HL.out
  go_wp2_with fail
  refine (Hdec.out).mono ?_; rintro e w3 ⟨vr3, vb3, rfl, hoL3, hoT3, hb3⟩
  have hoL3 : w3.ownsRow w2.heap.size 9 1 vr3 m.rcpts.length (m.rcpts.flatMap s1) := hoL3
  have hoT3 : w3.ownsRow w2.heap.size 5 1 vb3 m.body.length (m.body.map u8v) := hoT3
  have he : mailVal ((some (m, L)).elim MailD.zero Prod.fst) vr3 vb3 = mailVal m vr3 vb3 := rfl
  have hel : (Option.elim (some (m, L)) 0 Prod.snd : Nat) = L := rfl
  have hsm : Option.isSome (some (m, L)) = true := rfl
  rw [he, hel, hsm]
  have hbw3 := hbw2.trans (hb3.mono hbw2.size)
  obtain ⟨a3, c3, hv3⟩ := own_form0 hoL3
  obtain ⟨a4, c4, hv4⟩ := own_form0 hoT3
  subst hv3
  subst hv4
  have hnew := MailAt.new (m := m) (rdL_ofOwn s1_len (by decide) hoL3) (rdB_ofOwn hoT3)
  have hbw4 := hbw3.alloc hbw3.size (.cells #[.int .i64 m.id, .int .i64 m.parent, .int .i64 m.born, .string (strL m.frm), (.slice a3 m.rcpts.length c3), (.slice a4 m.body.length c4)] 25)
  have hX : w3.heap.size = w3.heap.size := rfl
  obtain ⟨w4, hw4⟩ : ∃ w4, w3.alloc (.cells #[.int .i64 m.id, .int .i64 m.parent, .int .i64 m.born, .string (strL m.frm), (.slice a3 m.rcpts.length c3), (.slice a4 m.body.length c4)] 25) = w4 := ⟨_, rfl⟩
  have hS : MailS w4 w3.heap.size m (.slice a3 m.rcpts.length c3) (.slice a4 m.body.length c4) w4.drew := by
    rw [hw4] at hnew
    exact MailS.go ((Below.refl _ _).drew) ⟨hnew.cells.1, hnew.cells.2.1, hnew.cells.2.2.1, hnew.cells.2.2.2.1, hnew.cells.2.2.2.2.1, hnew.cells.2.2.2.2.2, Below.refl _ _, hnew⟩
  have getM : Hid (∀ W, MailS w4 w3.heap.size m (.slice a3 m.rcpts.length c3) (.slice a4 m.body.length c4) W → MailAt W w3.heap.size m (.slice a3 m.rcpts.length c3) (.slice a4 m.body.length c4)) := fun W h => h.2.2.2.2.2.2.2
  have hmx4 := Hmax.out.below hbw4
  have Hmax4 : Hid (∀ W, MailS w4 w3.heap.size m (.slice a3 m.rcpts.length c3) (.slice a4 m.body.length c4) W → MaxOk W) := fun W h => by rw [hw4] at hmx4; exact hmx4.below h.2.2.2.2.2.2.1
  have Hfin : Hid (∀ W, MailS w4 w3.heap.size m (.slice a3 m.rcpts.length c3) (.slice a4 m.body.length c4) W → Below w.heap.size w W) := fun W h => by rw [hw4] at hbw4; exact hbw4.trans (h.2.2.2.2.2.2.1.mono hbw4.size)
  have HS := Lib.hid hS
  have Hw4 := Lib.hid hw4
  have hx3 : (w3.alloc (.cells #[.int .i64 m.id, .int .i64 m.parent, .int .i64 m.born, .string (strL m.frm), (.slice a3 m.rcpts.length c3), (.slice a4 m.body.length c4)] 25)).heap.size = w3.heap.size + 1 := by simp
  clear hS hw4 hmx4 hbw4 hnew hoL3 hoT3 hX hx3 he hel hsm Hdec Hdc
  go_wp2
  rw [Hw4.out]
  generalize hX : w3.heap.size = X at *
  clear hX
  refine wp_region_noPanic ?_
  refine wp_region_held_drew (S := (fun w' => w'.cell? ⟨X, 0, none⟩ = some (.int .i64 m.id) ∧ w'.cell? ⟨X, 1, none⟩ = some (.int .i64 m.parent) ∧ w'.cell? ⟨X, 2, none⟩ = some (.int .i64 m.born) ∧ w'.cell? ⟨X, 3, none⟩ = some (.string (strL m.frm)) ∧ w'.cell? ⟨X, 4, none⟩ = some (.slice a3 m.rcpts.length c3) ∧ w'.cell? ⟨X, 5, none⟩ = some (.slice a4 m.body.length c4) ∧ MailRest w4 X m (.slice a3 m.rcpts.length c3) (.slice a4 m.body.length c4) w')) (by kernel_rfl) (by first | with_reducible exact HS.out | with_reducible assumption) (fun hHeld => ?_)
  refine wpAnyH_take (i := 0) (oi := _) (v := ?_) (by simp only [List.getElem?_toArray, List.getElem?_cons_succ, List.getElem?_cons_zero]; rfl) (by kernel_rfl) (by kernel_rfl) (by kernel_rfl) (fun _ _ _ h => h) (Or.inl ⟨by rfl, ?_⟩) (by assumption) ?_
  rotate_left
  · intro w hSw; (try dsimp only at hSw); go_simp; (try with_reducible rfl)
  try simp only [Act.put, List.setIfInBounds_toArray, List.set_cons_zero, List.set_cons_succ]
  refine wpAnyH_take (i := 1) (oi := _) (v := ?_) (by simp only [List.getElem?_toArray, List.getElem?_cons_succ, List.getElem?_cons_zero]; rfl) (by kernel_rfl) (by kernel_rfl) (by kernel_rfl) (fun _ _ _ h => h) (Or.inl ⟨by rfl, ?_⟩) (by assumption) ?_
  rotate_left
  · intro w hSw; (try dsimp only at hSw); go_simp; (try with_reducible rfl)
  try simp only [Act.put, List.setIfInBounds_toArray, List.set_cons_zero, List.set_cons_succ]
  refine wpAnyH_take (i := 2) (oi := _) (v := ?_) (by simp only [List.getElem?_toArray, List.getElem?_cons_succ, List.getElem?_cons_zero]; rfl) (by kernel_rfl) (by kernel_rfl) (by kernel_rfl) (fun _ _ _ h => h) (Or.inl ⟨by rfl, ?_⟩) (by assumption) ?_
  rotate_left
  · intro w hSw; (try dsimp only at hSw); go_simp; (try with_reducible rfl)
  try simp only [Act.put, List.setIfInBounds_toArray, List.set_cons_zero, List.set_cons_succ]
  refine wpAnyH_take (i := 3) (oi := _) (v := ?_) (by simp only [List.getElem?_toArray, List.getElem?_cons_succ, List.getElem?_cons_zero]; rfl) (by kernel_rfl) (by kernel_rfl) (by kernel_rfl) (fun _ _ _ h => h) (Or.inl ⟨by rfl, ?_⟩) (by assumption) ?_
  rotate_left
  · intro w hSw; (try dsimp only at hSw); go_simp; (try with_reducible rfl)
  try simp only [Act.put, List.setIfInBounds_toArray, List.set_cons_zero, List.set_cons_succ]
  refine wpAnyH_take (i := 4) (oi := _) (v := ?_) (by simp only [List.getElem?_toArray, List.getElem?_cons_succ, List.getElem?_cons_zero]; rfl) (by kernel_rfl) (by kernel_rfl) (by kernel_rfl) (fun _ _ _ h => h) (Or.inl ⟨by rfl, ?_⟩) (by assumption) ?_
  rotate_left
  · intro w hSw; (try dsimp only at hSw); go_simp; (try with_reducible rfl)
  try simp only [Act.put, List.setIfInBounds_toArray, List.set_cons_zero, List.set_cons_succ]
  refine wpAnyH_take (i := 5) (oi := _) (v := ?_) (by simp only [List.getElem?_toArray, List.getElem?_cons_succ, List.getElem?_cons_zero]; rfl) (by kernel_rfl) (by kernel_rfl) (by kernel_rfl) (fun _ _ _ h => h) (Or.inl ⟨by rfl, ?_⟩) (by assumption) ?_
  rotate_left
  · intro w hSw; (try dsimp only at hSw); go_simp; (try with_reducible rfl)
  try simp only [Act.put, List.setIfInBounds_toArray, List.set_cons_zero, List.set_cons_succ]
  refine wpAnyH_take (i := 6) (oi := _) (v := ?_) (by simp only [List.getElem?_toArray, List.getElem?_cons_succ, List.getElem?_cons_zero]; rfl) (by kernel_rfl) (by kernel_rfl) (by kernel_rfl) (fun _ _ _ h => h) (Or.inl ⟨by rfl, ?_⟩) (by assumption) ?_
  rotate_left
  · intro w hSw; (try dsimp only at hSw); go_simp; (try with_reducible rfl)
  try simp only [Act.put, List.setIfInBounds_toArray, List.set_cons_zero, List.set_cons_succ]
  refine wpAnyH_take (i := 7) (oi := _) (v := ?_) (by simp only [List.getElem?_toArray, List.getElem?_cons_succ, List.getElem?_cons_zero]; rfl) (by kernel_rfl) (by kernel_rfl) (by kernel_rfl) (fun _ _ _ h => h) (Or.inl ⟨by rfl, ?_⟩) (by assumption) ?_
  rotate_left
  · intro w hSw; (try dsimp only at hSw); go_simp; (try with_reducible rfl)
  try simp only [Act.put, List.setIfInBounds_toArray, List.set_cons_zero, List.set_cons_succ]
  refine wpAnyH_take (i := 8) (oi := _) (v := ?_) (by simp only [List.getElem?_toArray, List.getElem?_cons_succ, List.getElem?_cons_zero]; rfl) (by kernel_rfl) (by kernel_rfl) (by kernel_rfl) (fun _ _ _ h => h) (Or.inl ⟨by rfl, ?_⟩) (by assumption) ?_
  rotate_left
  · intro w hSw; (try dsimp only at hSw); go_simp; (try with_reducible rfl)
  try simp only [Act.put, List.setIfInBounds_toArray, List.set_cons_zero, List.set_cons_succ]
  refine wpAnyH_take (i := 9) (oi := _) (v := ?_) (by simp only [List.getElem?_toArray, List.getElem?_cons_succ, List.getElem?_cons_zero]; rfl) (by kernel_rfl) (by kernel_rfl) (by kernel_rfl) (fun _ _ _ h => h) (Or.inl ⟨by rfl, ?_⟩) (by assumption) ?_
  rotate_left
  · intro w hSw; (try dsimp only at hSw); go_simp; (try with_reducible rfl)
  try simp only [Act.put, List.setIfInBounds_toArray, List.set_cons_zero, List.set_cons_succ]
  refine wpAnyH_take (i := 10) (oi := _) (v := ?_) (by simp only [List.getElem?_toArray, List.getElem?_cons_succ, List.getElem?_cons_zero]; rfl) (by kernel_rfl) (by kernel_rfl) (by kernel_rfl) (fun _ _ _ h => h) (Or.inl ⟨by rfl, ?_⟩) (by assumption) ?_
  rotate_left
  · intro w hSw; (try dsimp only at hSw); go_simp; (try with_reducible rfl)
  try simp only [Act.put, List.setIfInBounds_toArray, List.set_cons_zero, List.set_cons_succ]
  refine wpAnyH_take (i := 11) (oi := _) (v := ?_) (by simp only [List.getElem?_toArray, List.getElem?_cons_succ, List.getElem?_cons_zero]; rfl) (by kernel_rfl) (by kernel_rfl) (by kernel_rfl) (fun _ _ _ h => h) (Or.inl ⟨by rfl, ?_⟩) (by assumption) ?_
  rotate_left
  · intro w hSw; (try dsimp only at hSw); go_simp; (try with_reducible rfl)
  try simp only [Act.put, List.setIfInBounds_toArray, List.set_cons_zero, List.set_cons_succ]
  refine wpAnyH_ready (rs := [12]) (by kernel_rfl) (by simp) ?_
  refine AllReadyH.cons (o := _) (by simp only [List.getElem?_toArray, List.getElem?_cons_succ, List.getElem?_cons_zero]; rfl) (fun K hK => ?_) AllReadyH.nil
  go_simp
  (go_at_call 38; refine (Hone.out _).mono ?_; rintro e w5 ⟨vr5, vb5, rfl, hr5, ht5, -, -, -, -, hb5⟩; have hS5 := MailS.go hb5 HS.out)
  refine hK.out _ _ (by (try dsimp only); first | with_reducible exact HS.out | with_reducible assumption) (fun hHeld => ?_)
  clear hK K
  try simp only [Act.put, List.setIfInBounds_toArray, List.set_cons_zero, List.set_cons_succ]
  refine wpAnyH_ready (rs := [13]) (by kernel_rfl) (by simp) ?_
  refine AllReadyH.cons (o := _) (by simp only [List.getElem?_toArray, List.getElem?_cons_succ, List.getElem?_cons_zero]; rfl) (fun K hK => ?_) AllReadyH.nil
  go_simp
  (go_at_call 39; refine (Hsm1.out _ _ _ _ _ (getM.out _ hS5).rs (getM.out _ hS5).rb hr5 ht5).mono ?_; rintro e w6 ⟨rfl, hb6⟩; have hS6 := MailS.go hb6 hS5)
  refine hK.out _ _ (by (try dsimp only); first | with_reducible exact HS.out | with_reducible assumption) (fun hHeld => ?_)
  clear hK K
  try simp only [Act.put, List.setIfInBounds_toArray, List.set_cons_zero, List.set_cons_succ]
  refine wpAnyH_take (i := 14) (oi := _) (v := ?_) (by simp only [List.getElem?_toArray, List.getElem?_cons_succ, List.getElem?_cons_zero]; rfl) (by kernel_rfl) (by kernel_rfl) (by kernel_rfl) (fun _ _ _ h => h) (Or.inl ⟨by rfl, ?_⟩) (by assumption) ?_
  rotate_left
  · intro w hSw; (try dsimp only at hSw); go_simp; (try with_reducible rfl)
  try simp only [Act.put, List.setIfInBounds_toArray, List.set_cons_zero, List.set_cons_succ]
  refine wpAnyH_take (i := 15) (oi := _) (v := ?_) (by simp only [List.getElem?_toArray, List.getElem?_cons_succ, List.getElem?_cons_zero]; rfl) (by kernel_rfl) (by kernel_rfl) (by kernel_rfl) (fun _ _ _ h => h) (Or.inl ⟨by rfl, ?_⟩) (by assumption) ?_
  rotate_left
  · intro w hSw; (try dsimp only at hSw); go_simp; (try with_reducible rfl)
  try simp only [Act.put, List.setIfInBounds_toArray, List.set_cons_zero, List.set_cons_succ]
  refine wpAnyH_take (i := 16) (oi := _) (v := ?_) (by simp only [List.getElem?_toArray, List.getElem?_cons_succ, List.getElem?_cons_zero]; rfl) (by kernel_rfl) (by kernel_rfl) (by kernel_rfl) (fun _ _ _ h => h) (Or.inl ⟨by rfl, ?_⟩) (by assumption) ?_
  rotate_left
  · intro w hSw; (try dsimp only at hSw); go_simp; (try with_reducible rfl)
  try simp only [Act.put, List.setIfInBounds_toArray, List.set_cons_zero, List.set_cons_succ]
  refine wpAnyH_ready (rs := [17]) (by kernel_rfl) (by simp) ?_
  refine AllReadyH.cons (o := _) (by simp only [List.getElem?_toArray, List.getElem?_cons_succ, List.getElem?_cons_zero]; rfl) (fun K hK => ?_) AllReadyH.nil
  go_simp
  (go_at_call 17; refine (Hgd.out _ _ _ (getM.out _ hS6).rs (getM.out _ hS6).rb (Hmax4.out _ hS6)).mono ?_; rintro e w7 ⟨rfl, hb7⟩; have hS7 := MailS.go hb7 hS6)
  refine hK.out _ _ (by (try dsimp only); first | with_reducible exact HS.out | with_reducible assumption) (fun hHeld => ?_)
  clear hK K
  try simp only [Act.put, List.setIfInBounds_toArray, List.set_cons_zero, List.set_cons_succ]
  refine wpAnyH_take (i := 18) (oi := _) (v := ?_) (by simp only [List.getElem?_toArray, List.getElem?_cons_succ, List.getElem?_cons_zero]; rfl) (by kernel_rfl) (by kernel_rfl) (by kernel_rfl) (fun _ _ _ h => h) (Or.inl ⟨by rfl, ?_⟩) (by assumption) ?_
  rotate_left
  · intro w hSw; (try dsimp only at hSw); go_simp; (try with_reducible rfl)
  try simp only [Act.put, List.setIfInBounds_toArray, List.set_cons_zero, List.set_cons_succ]
  refine wpAnyH_take (i := 19) (oi := _) (v := ?_) (by simp only [List.getElem?_toArray, List.getElem?_cons_succ, List.getElem?_cons_zero]; rfl) (by kernel_rfl) (by kernel_rfl) (by kernel_rfl) (fun _ _ _ h => h) (Or.inl ⟨by rfl, ?_⟩) (by assumption) ?_
  rotate_left
  · intro w hSw; (try dsimp only at hSw); go_simp; (try with_reducible rfl)
  try simp only [Act.put, List.setIfInBounds_toArray, List.set_cons_zero, List.set_cons_succ]
  refine wpAnyH_take (i := 20) (oi := _) (v := ?_) (by simp only [List.getElem?_toArray, List.getElem?_cons_succ, List.getElem?_cons_zero]; rfl) (by kernel_rfl) (by kernel_rfl) (by kernel_rfl) (fun _ _ _ h => h) (Or.inl ⟨by rfl, ?_⟩) (by assumption) ?_
  rotate_left
  · intro w hSw; (try dsimp only at hSw); go_simp; (try with_reducible rfl)
  try simp only [Act.put, List.setIfInBounds_toArray, List.set_cons_zero, List.set_cons_succ]
  refine wpAnyH_take (i := 21) (oi := _) (v := ?_) (by simp only [List.getElem?_toArray, List.getElem?_cons_succ, List.getElem?_cons_zero]; rfl) (by kernel_rfl) (by kernel_rfl) (by kernel_rfl) (fun _ _ _ h => h) (Or.inl ⟨by rfl, ?_⟩) (by assumption) ?_
  rotate_left
  · intro w hSw; (try dsimp only at hSw); go_simp; (try with_reducible rfl)
  try simp only [Act.put, List.setIfInBounds_toArray, List.set_cons_zero, List.set_cons_succ]
  refine wpAnyH_ready (rs := [22]) (by kernel_rfl) (by simp) ?_
  refine AllReadyH.cons (o := _) (by simp only [List.getElem?_toArray, List.getElem?_cons_succ, List.getElem?_cons_zero]; rfl) (fun K hK => ?_) AllReadyH.nil
  go_simp
  (go_at_call 39; refine (Hsm2.out _ _ _ _ _ (getM.out _ hS7).rs (getM.out _ hS7).rb rdS_nil rdB_nil).mono ?_; rintro e w8 ⟨rfl, hb8⟩; have hS8 := MailS.go hb8 hS7; have hfin8 := Hfin.out _ hS8)
  refine hK.out _ _ (by (try dsimp only); first | with_reducible exact HS.out | with_reducible assumption) (fun hHeld => ?_)
  clear hK K
  try simp only [Act.put, List.setIfInBounds_toArray, List.set_cons_zero, List.set_cons_succ]
  refine wpAnyH_take (i := 23) (oi := _) (v := ?_) (by simp only [List.getElem?_toArray, List.getElem?_cons_succ, List.getElem?_cons_zero]; rfl) (by kernel_rfl) (by kernel_rfl) (by kernel_rfl) (fun _ _ _ h => h) (Or.inl ⟨by rfl, ?_⟩) (by assumption) ?_
  rotate_left
  · intro w hSw; (try dsimp only at hSw); go_simp; (try with_reducible rfl)
  try simp only [Act.put, List.setIfInBounds_toArray, List.set_cons_zero, List.set_cons_succ]
  refine wpAnyH_take (i := 24) (oi := _) (v := ?_) (by simp only [List.getElem?_toArray, List.getElem?_cons_succ, List.getElem?_cons_zero]; rfl) (by kernel_rfl) (by kernel_rfl) (by kernel_rfl) (fun _ _ _ h => h) (Or.inl ⟨by rfl, ?_⟩) (by assumption) ?_
  rotate_left
  · intro w hSw; (try dsimp only at hSw); go_simp; (try with_reducible rfl)
  try simp only [Act.put, List.setIfInBounds_toArray, List.set_cons_zero, List.set_cons_succ]
  refine wpAnyH_take (i := 25) (oi := _) (v := ?_) (by simp only [List.getElem?_toArray, List.getElem?_cons_succ, List.getElem?_cons_zero]; rfl) (by kernel_rfl) (by kernel_rfl) (by kernel_rfl) (fun _ _ _ h => h) (Or.inl ⟨by rfl, ?_⟩) (by assumption) ?_
  rotate_left
  · intro w hSw; (try dsimp only at hSw); go_simp; (try with_reducible rfl)
  try simp only [Act.put, List.setIfInBounds_toArray, List.set_cons_zero, List.set_cons_succ]
  refine wpAnyH_done (by kernel_rfl) ?_ _
  refine NoPanic.normal ?_
  go_wp2
  go_ret
  exact ⟨rfl, hfin8⟩
end Go.Proofs.YtjddicoigbidlaaGreatDoor

set_option linter.unusedSimpArgs false
set_option linter.unusedVariables false
namespace Go.Proofs.YtjddicoigbidlaaGreatDoor
open Go.RowKit
set_option maxRecDepth 100000 in
set_option maxHeartbeats 8000000 in
theorem envDecodes_walk (v : Value) (bs : List UInt8) (w : World) (hv : RdB w v bs) (hnv : NilOk v) (hol : ∀ k, v.ownBlock = some k → k < w.heap.size) (hmax : MaxOk w) :
    Calls Tryz.prog 4 #[v] w fun e w' => e = .returned (.bool true) ∧ Below w.heap.size w w' := by
  obtain ⟨i0, hi, hz0, hz1, hz2⟩ := info_parts infoU8
  obtain ⟨a, cap, rfl, hl, hc⟩ := hv.form
  have hlI : (bs.length : Int) ≤ 9223372036854775807 := by omega
  have hans := fun W h => envAns_calls W h
  have Hans := Lib.hid hans
  have Hmax := Lib.hid hmax
  clear hans hmax
  by_cases hbig : 3000 < bs.length
  · have hbi : (3000 : Int) < (bs.length : Int) := by omega
    clear hv hnv hol
    go_enter Tryz.func4, Tryz.ntmps4
    go_wp2_with fail
    refine (Hans.out _ Hmax.out).mono ?_; rintro e w1 ⟨rfl, hb1⟩
    go_wp2
    go_ret
    exact ⟨rfl, hb1⟩
  · have hbi : (bs.length : Int) ≤ 3000 := by omega
    obtain ⟨W0, hW0⟩ : ∃ W0, w.alloc (.cells #[] 5) = W0 := ⟨_, rfl⟩
    have hb0 : Below w.heap.size w W0 := by rw [← hW0]; exact (Below.refl _ _).alloc (Nat.le_refl _) _
    have hown0 : W0.ownsRow w.heap.size 5 1 (.slice (some ⟨w.heap.size, 0, none⟩) 0 0) 0 [] := by rw [← hW0]; exact World.ownsRow_lit w #[] 0 (Nat.le_refl _) (by decide) rfl
    have hsrc := rdLB (hv.below (Nat.le_refl _) hb0)
    have hm1 : 0 + bs.length ≤ maxLen := by show _ ≤ 9223372036854775807; omega
    have hm2 : (0 + bs.length) * 1 ≤ 140737488355328 := by omega
    have hone := bb1_one bs
    have hbs := hb0.size
    obtain ⟨r, hr⟩ : ∃ r, decodeMail bs = r := ⟨_, rfl⟩
    have hd1 := fun v W h1 h2 => envDecode_calls v bs W h1 (by omega) h2
    have hd2 := fun v W h1 h2 h3 => refBegins_calls v bs W h1 (by omega) h2 h3
    rw [hr] at hd1 hd2
    have Hd1 := Lib.hid hd1
    have Hd2 := Lib.hid hd2
    have Hv := Lib.hid hv
    have Hnv := Lib.hid hnv
    have Hol := Lib.hid hol
    have Hone := Lib.hid hone
    have Hb0 := Lib.hid hb0
    clear hd1 hd2 hv hnv hol hone hr hb0
    subst hW0
    go_enter Tryz.func4, Tryz.ntmps4
    go_wp2_with (at_builtin; go_must (refine wpList_append_any bb1_len (by decide) rfl (.tmp 14) (.tmp 15) 23 rfl w.heap.size 5 i0 (.int .u8 0) 1 Tryz.underlying23 hi hz0 hz1 hz2 rfl _ _ _ rfl hown0 _ bs rfl hsrc Hnv.out Hone.out hm1 hm2 hbs ?_); rintro v2 w2 hown2 hg2 _; rw [Nat.zero_add, List.nil_append] at hown2)
    have hb2 := Hb0.out.grown hg2 hbs (fun k hk => by cases hk; exact Nat.le_refl _)
    rw [bb1_flat] at hown2
    have hcall := Hd1.out v2 w2 (rdB_ofOwn hown2) (Hmax.out.below hb2)
    have Hcall := Lib.hid hcall
    obtain ⟨a2, c2, hv2⟩ := own_form0 hown2
    subst hv2
    clear hcall hown2 hg2 Hd1 hown0 hsrc
    refine (Hcall.out).mono ?_; rintro e w3 ⟨vr3, vb3, rfl, hoL3, hoT3, hb3⟩
    have hbw3 := hb2.trans (hb3.mono hb2.size)
    generalize hmd : r.elim MailD.zero Prod.fst = m at *
    generalize hnn : r.elim 0 Prod.snd = nn at *
    generalize hokk : r.isSome = okk at *
    have Hmd := Lib.hid hmd
    have Hnn := Lib.hid hnn
    have Hokk := Lib.hid hokk
    obtain ⟨a3, c3, hv3⟩ := own_form0 hoL3
    obtain ⟨a4, c4, hv4⟩ := own_form0 hoT3
    subst hv3
    subst hv4
    have hm3 := MailAt.new (m := m) (rdL_ofOwn s1_len (by decide) hoL3) (rdB_ofOwn hoT3)
    obtain ⟨w4, hw4⟩ : ∃ w4, w3.alloc (.cells #[.int .i64 m.id, .int .i64 m.parent, .int .i64 m.born, .string (strL m.frm), (.slice a3 m.rcpts.length c3), (.slice a4 m.body.length c4)] 25) = w4 := ⟨_, rfl⟩
    rw [hw4] at hm3
    have hb4 : Below w3.heap.size w3 w4 := by rw [← hw4]; exact (Below.refl _ _).alloc (Nat.le_refl _) _
    have hbw4 := hbw3.trans (hb4.mono hbw3.size)
    have hcall2 := Hd2.out (.slice a bs.length cap) w4 (Hv.out.below (Nat.le_refl _) hbw4) Hnv.out (fun k hk => by have := Hol.out k hk; have := hbw4.size; omega)
    have Hcall2 := Lib.hid hcall2
    have Hm3 := Lib.hid hm3
    clear hcall2 hm3 hoL3 hoT3 Hd2 Hcall hmd hnn hokk
    subst hw4
    go_wp2_with fail
    refine (Hcall2.out).mono ?_; rintro e w5 ⟨vr5, vb5, rfl, hoL5, hoT5, hb5⟩
    rw [Hmd.out] at hoL5 hoT5 ⊢
    rw [Hnn.out, Hokk.out]
    have hbw5 := hbw4.trans (hb5.mono hbw4.size)
    obtain ⟨a5, c5, hv5⟩ := own_form0 hoL5
    obtain ⟨a6, c6, hv6⟩ := own_form0 hoT5
    subst hv5
    subst hv6
    have hm5 := MailAt.new (m := m) (rdL_ofOwn s1_len (by decide) hoL5) (rdB_ofOwn hoT5)
    have hm3 := (Hm3.out.below hb5)
    obtain ⟨w6, hw6⟩ : ∃ w6, w5.alloc (.cells #[.int .i64 m.id, .int .i64 m.parent, .int .i64 m.born, .string (strL m.frm), (.slice a5 m.rcpts.length c5), (.slice a6 m.body.length c6)] 25) = w6 := ⟨_, rfl⟩
    rw [hw6] at hm5
    have hb6 : Below w5.heap.size w5 w6 := by rw [← hw6]; exact (Below.refl _ _).alloc (Nat.le_refl _) _
    have hbw6 := hbw5.trans (hb6.mono hbw5.size)
    have hm36 := hm3.below hb6
    have hans := Hans.out w6 (Hmax.out.below hbw6)
    have hsame := fun W h1 h2 h3 h4 => refSame_calls m m (.slice a3 m.rcpts.length c3) (.slice a4 m.body.length c4) (.slice a5 m.rcpts.length c5) (.slice a6 m.body.length c6) W h1 h2 h3 h4
    have e1 : decide (m = m) = true := by simp
    rw [e1] at hsame
    have Hans6 := Lib.hid hans
    have Hm5 := Lib.hid hm5
    have Hm36 := Lib.hid hm36
    have Hsame := Lib.hid hsame
    clear hans hsame hm5 hm36 hm3 hoL5 hoT5 Hm3 e1 Hcall2
    subst hw6
    go_wp2_with fail
    refine (Hans6.out).mono ?_; rintro e w7 ⟨rfl, hb7⟩
    have hmA := Hm36.out.below hb7
    have hmB := Hm5.out.below hb7
    have hbw7 := hbw6.trans (hb7.mono hbw6.size)
    obtain ⟨x0, x1, x2, x3, x4, x5⟩ := hmA.cells
    obtain ⟨y0, y1, y2, y3, y4, y5⟩ := hmB.cells
    have hcall3 := Hsame.out w7 hmA.rs hmA.rb hmB.rs hmB.rb
    have Hcall3 := Lib.hid hcall3
    clear hcall3 hmA hmB Hans6 Hm5 Hm36
    cases okk
    all_goals
      go_wp2_with fail
      refine (Hcall3.out).mono ?_; rintro e w8 ⟨rfl, hb8⟩
      go_wp2
      go_ret
      exact ⟨rfl, hbw7.trans (hb8.mono hbw7.size)⟩
end Go.Proofs.YtjddicoigbidlaaGreatDoor

set_option linter.unusedSimpArgs false
set_option linter.unusedVariables false
namespace Go.Proofs.YtjddicoigbidlaaGreatDoor
open Go.RowKit
theorem small_of_light {m : MailD} (h : m.light = true) : m.small := by
  obtain ⟨_, h2, h3, _⟩ := (light_iff m).1 h
  exact ⟨by omega, fun l hl => by have := h2 l hl; omega⟩
theorem decode_cut0 (m : MailD) (hs : m.small) (hg : m.good = true) (k : Nat) (hk : k < m.record.length) : decodeMail (m.record.take k) = none := decode_cut m hs hg k hk
/-- What a turned byte of a record leaves. -/
theorem decode_xor (m : MailD) (hs : m.small) (hg : m.good = true) (k : Nat) (x t : UInt8) (hx : m.record[k]? = some x) :
    decodeMail (m.record.set k (x ^^^ t)) = if t = 0 then some (m, m.record.length) else none := by
  by_cases h0 : t = 0
  · subst h0
    rw [if_pos rfl]
    have hk := (List.getElem?_eq_some_iff.1 hx).1
    have : m.record.set k (x ^^^ 0) = m.record ++ [] := by
      rw [List.append_nil, UInt8.xor_zero, ← (List.getElem?_eq_some_iff.1 hx).2, List.set_getElem_self]
    rw [this]
    exact decode_record m hs hg []
  · rw [if_neg h0]
    exact decode_turned m hs hg k x t hx h0
set_option maxRecDepth 100000 in
set_option maxHeartbeats 16000000 in
theorem envCut_walk (m : MailD) (vr vb : Value) (c : Nat) (t : UInt8) (w : World) (hr : RdS w vr m.rcpts) (hb : RdB w vb m.body) (hnr : NilOk vr) (hnb : NilOk vb) (hc : c < 65536) (hmax : MaxOk w) :
    Calls Tryz.prog 5 #[mailVal m vr vb, .int .u16 (c : Int), u8v t] w fun e w' => e = .returned (.bool true) ∧ Below w.heap.size w w' := by
  obtain ⟨i0, hi, hz0, hz1, hz2⟩ := info_parts infoU8
  obtain ⟨ar, capr, rfl, hlr, hcr⟩ := hr.form
  obtain ⟨ab, capb, rfl, hlb, hcb⟩ := hb.form
  have hnew := MailAt.new (m := m) hr hb
  have hb0 : Below w.heap.size w (w.alloc (.cells #[.int .i64 m.id, .int .i64 m.parent, .int .i64 m.born, .string (strL m.frm), .slice ar m.rcpts.length capr, .slice ab m.body.length capb] 25)) := (Below.refl _ _).alloc (Nat.le_refl _) _
  obtain ⟨W, hW⟩ : ∃ W, w.alloc (.cells #[.int .i64 m.id, .int .i64 m.parent, .int .i64 m.born, .string (strL m.frm), .slice ar m.rcpts.length capr, .slice ab m.body.length capb] 25) = W := ⟨_, rfl⟩
  rw [hW] at hnew hb0
  have hmaxW := hmax.below hb0
  have hans := fun W' (h : Below W.heap.size W W') => envAns_calls W' (hmaxW.below h)
  have hlight := fun W' (h : Below W.heap.size W W') => light_calls m (.slice ar m.rcpts.length capr) (.slice ab m.body.length capb) W' (hnew.rs.below (Nat.le_refl _) h) (hnew.rb.below (Nat.le_refl _) h)
  obtain ⟨x0, x1, x2, x3, x4, x5⟩ := hnew.cells
  have Hans := Lib.hid hans
  have Hnew := Lib.hid hnew
  have Hb0 := Lib.hid hb0
  have HmaxW := Lib.hid hmaxW
  have hbi : (m.body.length : Int) ≤ 9223372036854775807 := by omega
  obtain ⟨lt, hlt⟩ : ∃ lt, m.light = lt := ⟨_, rfl⟩
  rw [hlt] at hlight
  have Hlight := Lib.hid hlight
  have Hlt := Lib.hid hlt
  clear hans hnew hb0 hlight hlt hr hb hmax hmaxW
  subst hW
  go_enter Tryz.func5, Tryz.ntmps5
  go_wp2_with fail
  refine (Hlight.out _ (Below.refl _ _)).mono ?_; rintro e w1 ⟨rfl, hb1⟩
  cases lt
  · have hb1' := Hb0.out.trans (hb1.mono Hb0.out.size)
    go_wp2_with fail
    refine (Hans.out _ hb1).mono ?_; rintro e w2 ⟨rfl, hb2⟩
    go_wp2
    go_ret
    exact ⟨rfl, hb1'.trans (hb2.mono hb1'.size)⟩
  · have hsm := small_of_light Hlt.out
    have hm1 := Hnew.out.below hb1
    obtain ⟨gd, hgd⟩ : ∃ gd, m.good = gd := ⟨_, rfl⟩
    have hgood := refGood_calls m (.slice ar m.rcpts.length capr) (.slice ab m.body.length capb) w1 hm1.rs hm1.rb (fun l h => by have := hsm.2 l h; omega) (by have := hsm.1; omega)
    rw [hgd] at hgood
    obtain ⟨y0, y1, y2, y3, y4, y5⟩ := hm1.cells
    have Hgood := Lib.hid hgood
    have Hgd := Lib.hid hgd
    have Hsm := Lib.hid hsm
    have hb1' := Hb0.out.trans (hb1.mono Hb0.out.size)
    clear hgood hgd hsm hm1
    go_wp2_with fail
    refine (Hgood.out).mono ?_; rintro e w2 ⟨rfl, hb2⟩
    have hW2 := hb1.trans (hb2.mono hb1.size)
    have hb2' := hb1'.trans (hb2.mono hb1'.size)
    cases gd
    · go_wp2_with fail
      refine (Hans.out _ hW2).mono ?_; rintro e w3 ⟨rfl, hb3⟩
      go_wp2
      go_ret
      exact ⟨rfl, hb2'.trans (hb3.mono hb2'.size)⟩
    · have hm2 := Hnew.out.below hW2
      obtain ⟨z0, z1, z2, z3, z4, z5⟩ := hm2.cells
      by_cases hbig : 1000 < m.body.length
      · have hbgi : (1000 : Int) < (m.body.length : Int) := by omega
        clear hm2
        go_wp2_with fail
        refine (Hans.out _ hW2).mono ?_; rintro e w3 ⟨rfl, hb3⟩
        go_wp2
        go_ret
        exact ⟨rfl, hb2'.trans (hb3.mono hb2'.size)⟩
      · have hbgi : (m.body.length : Int) ≤ 1000 := by omega
        have hrec := record_calls m (.slice ar m.rcpts.length capr) (.slice ab m.body.length capb) w2 hm2.rs hm2.rb hnb Hsm.out Hgd.out
        have hrl := record_length m
        have hin := inner_small m Hsm.out ((good_iff m).1 Hgd.out).2.2.2.1.2 ((good_iff m).1 Hgd.out).2.2.2.2.1
        have hcut := fun k hk => decode_cut m Hsm.out Hgd.out k hk
        have hxor := fun k x hx => decode_xor m Hsm.out Hgd.out k x t hx
        generalize m.record = R at hrec hrl hcut hxor
        obtain ⟨L, hL⟩ : ∃ L, R.length = L := ⟨_, rfl⟩
        rw [hL] at hrl
        have hL0 : 0 < L := by omega
        have hLb : L ≤ 1000012 := by omega
        obtain ⟨k, hk⟩ : ∃ k, c % L = k := ⟨_, rfl⟩
        have hkL : k < L := by rw [← hk]; exact Nat.mod_lt _ hL0
        have hcI : IntKind.i64.wrap (c : Int) = (c : Int) := IntWalk.i64_in _ (by omega)
        have hrem : Int.tmod (c : Int) (L : Int) = (k : Int) := by rw [Int.tmod_eq_emod_of_nonneg (by omega), ← hk]; simp
        have hrem2 : (c : Int) % (L : Int) = (k : Int) := by rw [← hk]; simp
        obtain ⟨x, hx⟩ : ∃ x, R[k]? = some x := ⟨_, List.getElem?_eq_getElem (by omega)⟩
        have hd1 := fun v W h1 h2 => envDecode_calls v (R.take k) W h1 (by rw [List.length_take]; omega) h2
        rw [hcut k (by omega)] at hd1
        have hd2 := fun v W h1 h2 => envDecode_calls v (R.set k (x ^^^ t)) W h1 (by rw [List.length_set]; omega) h2
        rw [hxor k x hx] at hd2
        have hk0 : (0 : Int) ≤ (k : Int) := by omega
        have hkI : (k : Int) < (L : Int) := by omega
        have hLI : (L : Int) ≤ 1000012 := by omega
        have hL0I : (0 : Int) < (L : Int) := by omega
        have Hrec := Lib.hid hrec
        have HL := Lib.hid hL
        have Hx := Lib.hid hx
        have Hd1 := Lib.hid hd1
        have Hd2 := Lib.hid hd2
        clear hrec hL hrl hin hcut hxor hk hx hd1 hd2 hm2
        go_wp2_with fail
        refine (Hrec.out).mono ?_; rintro e w3 ⟨v3, rfl, hown3, hb3⟩
        have hW3 := hW2.trans (hb3.mono hW2.size)
        have hb3' := hb2'.trans (hb3.mono hb2'.size)
        rw [HL.out] at hown3
        obtain ⟨g3, cap3, hv3, hg3, hg3l, hc3, hc3m⟩ := own_form hown3 hL0
        have hc3m' : cap3 ≤ 9223372036854775807 := hc3m
        subst hv3
        have hs1 := run_slice_h (P := Tryz.prog) Tryz.underlying23 u8size (some ⟨g3, 0, none⟩) L cap3 k (by omega)
        have hrd3 : RdB w3 (.slice (some ⟨g3, 0, none⟩) L cap3) R := rdB_ofOwn hown3
        have hpre := hrd3.pre k (by rw [HL.out]; omega)
        have hcall := Hd1.out _ w3 hpre (HmaxW.out.below hW3)
        have Hcall := Lib.hid hcall
        have Hown3 := Lib.hid hown3
        clear hcall hrd3 hpre hown3
        go_wp2_with fail
        refine (Hcall.out).mono ?_; rintro e w4 ⟨vr4, vb4, rfl, hoL4, hoT4, hb4⟩
        have he : mailVal ((none : Option (MailD × Nat)).elim MailD.zero Prod.fst) vr4 vb4 = .agg #[.int .i64 0, .int .i64 0, .int .i64 0, .string (strL []), vr4, vb4] := rfl
        have he2 : ((none : Option (MailD × Nat)).elim 0 Prod.snd : Nat) = 0 := rfl
        have he3 : Option.isSome (none : Option (MailD × Nat)) = false := rfl
        rw [he, he2, he3]
        have hW4 := hW3.trans (hb4.mono hW3.size)
        have hb4' := hb3'.trans (hb4.mono hb3'.size)
        obtain ⟨l4, a4, c4, hv4⟩ : ∃ l a c, vr4 = .slice a l c := ⟨_, own_form0 hoL4⟩
        obtain ⟨l4', a4', c4', hv4'⟩ : ∃ l a c, vb4 = .slice a l c := ⟨_, own_form0 hoT4⟩
        subst hv4
        subst hv4'
        generalize strL [] = sf
        obtain ⟨w5, hw5⟩ : ∃ w5, w4.alloc (.cells #[.int .i64 0, .int .i64 0, .int .i64 0, .string sf, .slice a4 l4 c4, .slice a4' l4' c4'] 25) = w5 := ⟨_, rfl⟩
        have hb5 : Below w4.heap.size w4 w5 := by rw [← hw5]; exact (Below.refl _ _).alloc (Nat.le_refl _) _
        have hs5 : w5.heap.size = w4.heap.size + 1 := by rw [← hw5]; simp
        obtain ⟨W5, hW5⟩ : ∃ W5, w5.alloc (.cells #[] 5) = W5 := ⟨_, rfl⟩
        have hb5a : Below w5.heap.size w5 W5 := by rw [← hW5]; exact (Below.refl _ _).alloc (Nat.le_refl _) _
        have hown0 : W5.ownsRow w5.heap.size 5 1 (.slice (some ⟨w5.heap.size, 0, none⟩) 0 0) 0 [] := by rw [← hW5]; exact World.ownsRow_lit w5 #[] 0 (Nat.le_refl _) (by decide) rfl
        have hown3W := own_below (own_below (own_below Hown3.out hb4 (Nat.le_refl _)) hb5 (Nat.le_refl _)) hb5a (Nat.le_refl _)
        have hsrc := rdLB (rdB_ofOwn hown3W)
        have hone := bb1_one R
        have hRl := HL.out
        have hm1' : 0 + R.length ≤ maxLen := by show _ ≤ 9223372036854775807; omega
        have hm2' : (0 + R.length) * 1 ≤ 140737488355328 := by omega
        have hbsz := hb5a.size
        have hnil : NilOk (.slice (some ⟨g3, 0, none⟩) L cap3) := fun l c h => by cases h
        have Hone := Lib.hid hone
        have Hsrc := Lib.hid hsrc
        have Hown0 := Lib.hid hown0
        have Hb5a := Lib.hid hb5a
        have Hb5 := Lib.hid hb5
        rw [hs5] at Hown0 hbsz
        have Hnil := Lib.hid hnil
        have Hm1 := Lib.hid hm1'
        have Hm2 := Lib.hid hm2'
        have hxor := bits_xor8 x t
        generalize hy : x ^^^ t = y at *
        have HRl := Lib.hid hRl
        clear hone hsrc hown0 hb5 hb5a hnil hm1' hm2' hoL4 hoT4 hown3W he he2 he3 hRl hy hs5
        subst hW5
        subst hw5
        go_wp2_with (at_builtin; go_must (refine wpList_append_any bb1_len (by decide) rfl (.tmp 46) (.tmp 47) 23 rfl (w4.heap.size + 1) 5 i0 (.int .u8 0) 1 Tryz.underlying23 hi hz0 hz1 hz2 rfl _ _ _ rfl Hown0.out _ R rfl Hsrc.out Hnil.out Hone.out Hm1.out Hm2.out hbsz ?_); rintro v6 w6 hown6 hg6 _; rw [Nat.zero_add, List.nil_append, bb1_flat, HRl.out] at hown6; obtain ⟨g6, cap6, hv6, hg6b, hg6l, hc6, hc6m⟩ := own_form hown6 hL0; subst hv6; have hcell6 : w6.cell? ⟨g6, k, none⟩ = some (.int .u8 x.toNat) := (by rw [hown6.cellAt k (by omega), List.getElem?_map, Hx.out]; rfl); have hfz6 := hown6.frozenAt k)
        have hst := (hown6.stored k (u8v y)).1
        rw [← List.map_set] at hst
        have hB6 := Hb5a.out.grown hg6 Hb5a.out.size (fun k hk => by have h : w4.heap.size + 1 = k := Option.some.inj hk; rw [World.size_alloc]; omega)
        obtain ⟨w7, hw7⟩ : ∃ w7, w6.setCell ⟨g6, k, none⟩ (.int .u8 y.toNat) = w7 := ⟨_, rfl⟩
        have hW5 := hW4.trans (Hb5.out.mono hW4.size)
        have hW6 := hW5.trans (hB6.mono hW5.size)
        have hg6W := hW4.size
        have hW7 := hW6.setCell (p := ⟨g6, k, none⟩) (by show _ ≤ g6; omega) (.int .u8 y.toNat)
        rw [hw7] at hW7
        have hst7 : w7.ownsRow (w4.heap.size + 1) 5 1 (.slice (some ⟨g6, 0, none⟩) L cap6) L ((R.set k y).map u8v) := by rw [← hw7]; exact hst
        have hcall := Hd2.out _ w7 (rdB_ofOwn hst7) (HmaxW.out.below hW7)
        have hb7' := Hb0.out.trans (hW7.mono Hb0.out.size)
        have hm7 := Hnew.out.below hW7
        have HW7 := Lib.hid hW7
        have Hm7 := Lib.hid hm7
        have Hb7' := Lib.hid hb7'
        have Hw7 := Lib.hid hw7
        rw [HRl.out] at hcall
        clear hst hown6 hg6 hcell6 hfz6 hW5 hW6 hB6 hst7 hW7 hm7 hb7' hw7 Hd1 Hd2
        by_cases ht : t = 0
        · subst ht
          rw [if_pos rfl] at hcall
          have Hcall7 := Lib.hid hcall
          clear hcall
          rw [Hw7.out]
          refine (Hcall7.out).mono ?_; rintro e w8 ⟨vr8, vb8, rfl, hoL8, hoT8, hb8⟩
          have hoL8 : w8.ownsRow w7.heap.size 9 1 vr8 m.rcpts.length (m.rcpts.flatMap s1) := hoL8
          have hoT8 : w8.ownsRow w7.heap.size 5 1 vb8 m.body.length (m.body.map u8v) := hoT8
          have he : mailVal ((some (m, L)).elim MailD.zero Prod.fst) vr8 vb8 = mailVal m vr8 vb8 := rfl
          have hel : (Option.elim (some (m, L)) 0 Prod.snd : Nat) = L := rfl
          have hsm : Option.isSome (some (m, L)) = true := rfl
          rw [he, hel, hsm]
          have hW8 := HW7.out.trans (hb8.mono HW7.out.size)
          have hb8' := Hb7'.out.trans (hb8.mono Hb7'.out.size)
          obtain ⟨a8, c8, hv8⟩ := own_form0 hoL8
          obtain ⟨a8', c8', hv8'⟩ := own_form0 hoT8
          subst hv8
          subst hv8'
          have hm9 := MailAt.new (m := m) (rdL_ofOwn s1_len (by decide) hoL8) (rdB_ofOwn hoT8)
          have hm8 := (Hm7.out.below hb8).below ((Below.refl w8.heap.size w8).alloc (Nat.le_refl _) (.cells #[.int .i64 m.id, .int .i64 m.parent, .int .i64 m.born, .string (strL m.frm), .slice a8 m.rcpts.length c8, .slice a8' m.body.length c8'] 25))
          have hW9 := hW8.alloc hW8.size (.cells #[.int .i64 m.id, .int .i64 m.parent, .int .i64 m.born, .string (strL m.frm), .slice a8 m.rcpts.length c8, .slice a8' m.body.length c8'] 25)
          have hb9' := hb8'.alloc hb8'.size (.cells #[.int .i64 m.id, .int .i64 m.parent, .int .i64 m.born, .string (strL m.frm), .slice a8 m.rcpts.length c8, .slice a8' m.body.length c8'] 25)
          have hans := Hans.out _ hW9
          have hsame := fun W h1 h2 h3 h4 => refSame_calls m m (.slice a8 m.rcpts.length c8) (.slice a8' m.body.length c8') (.slice ar m.rcpts.length capr) (.slice ab m.body.length capb) W h1 h2 h3 h4
          rw [show decide (m = m) = true by simp] at hsame
          have HansF := Lib.hid hans
          have Hsame := Lib.hid hsame
          have Hm8 := Lib.hid hm8
          have Hm9 := Lib.hid hm9
          clear hans he hel hsm hoL8 hoT8 hsame hm8 hm9
          go_wp2_with fail
          refine (HansF.out).mono ?_; rintro e w9 ⟨rfl, hb9⟩
          have hmA := Hm9.out.below hb9
          have hmB := Hm8.out.below hb9
          have hb9'' := hb9'.trans (hb9.mono hb9'.size)
          obtain ⟨x0, x1, x2, x3, x4, x5⟩ := hmA.cells
          obtain ⟨y0, y1, y2, y3, y4, y5⟩ := hmB.cells
          have hcall3 := Hsame.out w9 hmA.rs hmA.rb hmB.rs hmB.rb
          have Hcall3 := Lib.hid hcall3
          clear hcall3 hmA hmB HansF Hm8 Hm9
          go_wp2_with fail
          refine (Hcall3.out).mono ?_; rintro e w10 ⟨rfl, hb10⟩
          go_wp2
          go_ret
          exact ⟨rfl, hb9''.trans (hb10.mono hb9''.size)⟩
        · rw [if_neg ht] at hcall
          have Hcall7 := Lib.hid hcall
          have htn : ((t.toNat : Int) == 0) = false := by
            rw [beq_eq_false_iff_ne]; intro h; exact ht (UInt8.toNat_inj.1 (by simpa using h))
          clear hcall ht
          rw [Hw7.out]
          refine (Hcall7.out).mono ?_; rintro e w8 ⟨vr8, vb8, rfl, hoL8, hoT8, hb8⟩
          have he : mailVal ((none : Option (MailD × Nat)).elim MailD.zero Prod.fst) vr8 vb8 = .agg #[.int .i64 0, .int .i64 0, .int .i64 0, .string (strL []), vr8, vb8] := rfl
          have he2 : ((none : Option (MailD × Nat)).elim 0 Prod.snd : Nat) = 0 := rfl
          have he3 : Option.isSome (none : Option (MailD × Nat)) = false := rfl
          rw [he, he2, he3]
          have hW8 := HW7.out.trans (hb8.mono HW7.out.size)
          have hb8' := Hb7'.out.trans (hb8.mono Hb7'.out.size)
          obtain ⟨l8, a8, c8, hv8⟩ : ∃ l a c, vr8 = .slice a l c := ⟨_, own_form0 hoL8⟩
          obtain ⟨l8', a8', c8', hv8'⟩ : ∃ l a c, vb8 = .slice a l c := ⟨_, own_form0 hoT8⟩
          subst hv8
          subst hv8'
          generalize strL [] = sf8
          have hW9 := hW8.alloc hW8.size (.cells #[.int .i64 0, .int .i64 0, .int .i64 0, .string sf8, .slice a8 l8 c8, .slice a8' l8' c8'] 25)
          have hb9' := hb8'.alloc hb8'.size (.cells #[.int .i64 0, .int .i64 0, .int .i64 0, .string sf8, .slice a8 l8 c8, .slice a8' l8' c8'] 25)
          have hans := Hans.out _ hW9
          have HansF := Lib.hid hans
          clear hans he he2 he3 hoL8 hoT8
          go_wp2_with fail
          refine (HansF.out).mono ?_; rintro e w9 ⟨rfl, hb9⟩
          go_wp2
          go_ret
          exact ⟨rfl, hb9'.trans (hb9.mono hb9'.size)⟩
theorem envCut_all (m : MailD) (vr vb : Value) (c t : Int) (w : World) (hr : RdS w vr m.rcpts) (hb : RdB w vb m.body) (hnr : NilOk vr) (hnb : NilOk vb) (hc : (Lit.int .u16 c).wf = true) (ht : (Lit.int .u8 t).wf = true) (hmax : MaxOk w) :
    Calls Tryz.prog 5 #[mailVal m vr vb, .int .u16 c, .int .u8 t] w fun e w' => e = .returned (.bool true) ∧ Below w.heap.size w w' := by
  obtain ⟨l, u⟩ := bounds_u16 hc
  obtain ⟨l2, u2⟩ := bounds_u8 ht
  obtain ⟨c, rfl⟩ := Int.eq_ofNat_of_zero_le l
  have e : Value.int .u8 t = u8v (UInt8.ofNat t.toNat) := by
    show _ = Value.int .u8 ((UInt8.ofNat t.toNat).toNat : Int)
    rw [UInt8.toNat_ofNat', Nat.mod_eq_of_lt (by omega)]
    congr 1; omega
  rw [e]
  exact envCut_walk m vr vb c _ w hr hb hnr hnb (by omega) hmax
end Go.Proofs.YtjddicoigbidlaaGreatDoor

set_option linter.unusedSimpArgs false
set_option linter.unusedVariables false
namespace Go.Proofs.YtjddicoigbidlaaGreatDoor
open Go.RowKit
/-- What stays while the last statement is carried out: two boxed mails, and bytes. -/
def EncRest (w0 : World) (M X : Nat) (m : MailD) (vr vb vr2 vb2 v : Value) (R : List UInt8) (w : World) : Prop := Below w0.heap.size w0 w ∧ MailAt w M m vr vb ∧ MailAt w X m vr2 vb2 ∧ RdB w v R
abbrev EncS (w0 : World) (M X : Nat) (m : MailD) (vr vb vr2 vb2 v : Value) (R : List UInt8) (sr : ByteArray) (w' : World) : Prop :=
  w'.cell? ⟨M, 0, none⟩ = some (.int .i64 m.id) ∧ w'.cell? ⟨M, 1, none⟩ = some (.int .i64 m.parent) ∧ w'.cell? ⟨M, 2, none⟩ = some (.int .i64 m.born) ∧ w'.cell? ⟨M, 3, none⟩ = some (.string (strL m.frm)) ∧ w'.cell? ⟨M, 4, none⟩ = some vr ∧ w'.cell? ⟨M, 5, none⟩ = some vb ∧
  w'.cell? ⟨X, 0, none⟩ = some (.int .i64 m.id) ∧ w'.cell? ⟨X, 1, none⟩ = some (.int .i64 m.parent) ∧ w'.cell? ⟨X, 2, none⟩ = some (.int .i64 m.born) ∧ w'.cell? ⟨X, 3, none⟩ = some (.string (strL m.frm)) ∧ w'.cell? ⟨X, 4, none⟩ = some vr2 ∧ w'.cell? ⟨X, 5, none⟩ = some vb2 ∧
  (convert 23 9 v).run Tryz.prog w' = .ok (.string sr) w' ∧ EncRest w0 M X m vr vb vr2 vb2 v R w'
theorem EncS.of {w0 w : World} {M X : Nat} {m : MailD} {vr vb vr2 vb2 v : Value} {R : List UInt8} {sr : ByteArray} (hq : strL R = sr) (h : EncRest w0 M X m vr vb vr2 vb2 v R w) : EncS w0 M X m vr vb vr2 vb2 v R sr w := by
  obtain ⟨h1, h2, h3, h4⟩ := id h
  subst hq
  exact ⟨h2.cells.1, h2.cells.2.1, h2.cells.2.2.1, h2.cells.2.2.2.1, h2.cells.2.2.2.2.1, h2.cells.2.2.2.2.2, h3.cells.1, h3.cells.2.1, h3.cells.2.2.1, h3.cells.2.2.2.1, h3.cells.2.2.2.2.1, h3.cells.2.2.2.2.2, run_strL h4, h⟩
theorem EncS.go {w0 w w' : World} {M X : Nat} {m : MailD} {vr vb vr2 vb2 v : Value} {R : List UInt8} {sr : ByteArray} (hq : Hid (strL R = sr)) (hb : Below w.heap.size w w') (h : EncS w0 M X m vr vb vr2 vb2 v R sr w) : EncS w0 M X m vr vb vr2 vb2 v R sr w' := by
  obtain ⟨_, _, _, _, _, _, _, _, _, _, _, _, _, h1, h2, h3, h4⟩ := h
  exact EncS.of hq.out ⟨h1.trans (hb.mono h1.size), h2.below hb, h3.below hb, h4.below (Nat.le_refl _) hb⟩
set_option maxRecDepth 100000 in
set_option maxHeartbeats 16000000 in
theorem envEncodes_walk (m : MailD) (vr vb : Value) (v : Value) (more : List UInt8) (w : World) (hr : RdS w vr m.rcpts) (hb : RdB w vb m.body) (hnr : NilOk vr) (hnb : NilOk vb) (hv : RdB w v more) (hnv : NilOk v) (hmax : MaxOk w) :
    Calls Tryz.prog 3 #[mailVal m vr vb, v] w fun e w' => e = .returned (.bool true) ∧ Below w.heap.size w w' := by
  obtain ⟨i0, hi, hz0, hz1, hz2⟩ := info_parts infoU8
  obtain ⟨ar, capr, rfl, hlr, hcr⟩ := hr.form
  obtain ⟨ab, capb, rfl, hlb, hcb⟩ := hb.form
  obtain ⟨av, capv, rfl, hlv, hcv⟩ := hv.form
  have hnew := MailAt.new (m := m) hr hb
  have hb0 : Below w.heap.size w (w.alloc (.cells #[.int .i64 m.id, .int .i64 m.parent, .int .i64 m.born, .string (strL m.frm), .slice ar m.rcpts.length capr, .slice ab m.body.length capb] 25)) := (Below.refl _ _).alloc (Nat.le_refl _) _
  obtain ⟨W, hW⟩ : ∃ W, w.alloc (.cells #[.int .i64 m.id, .int .i64 m.parent, .int .i64 m.born, .string (strL m.frm), .slice ar m.rcpts.length capr, .slice ab m.body.length capb] 25) = W := ⟨_, rfl⟩
  rw [hW] at hnew hb0
  have hmaxW := hmax.below hb0
  have hvW := hv.below (Nat.le_refl _) hb0
  have hans := fun W' (h : Below W.heap.size W W') => envAns_calls W' (hmaxW.below h)
  have hlight := fun W' (h : Below W.heap.size W W') => light_calls m (.slice ar m.rcpts.length capr) (.slice ab m.body.length capb) W' (hnew.rs.below (Nat.le_refl _) h) (hnew.rb.below (Nat.le_refl _) h)
  obtain ⟨x0, x1, x2, x3, x4, x5⟩ := hnew.cells
  have Hans := Lib.hid hans
  have Hnew := Lib.hid hnew
  have Hb0 := Lib.hid hb0
  have HmaxW := Lib.hid hmaxW
  have HvW := Lib.hid hvW
  have Hnv := Lib.hid hnv
  have Hnr := Lib.hid hnr
  have Hnb := Lib.hid hnb
  have hmi : (more.length : Int) ≤ 9223372036854775807 := by omega
  obtain ⟨lt, hlt⟩ : ∃ lt, m.light = lt := ⟨_, rfl⟩
  rw [hlt] at hlight
  have Hlight := Lib.hid hlight
  have Hlt := Lib.hid hlt
  clear hans hnew hb0 hlight hlt hr hb hmax hmaxW hv hvW hnv hnr hnb
  subst hW
  go_enter Tryz.func3, Tryz.ntmps3
  go_wp2_with fail
  refine (Hlight.out _ (Below.refl _ _)).mono ?_; rintro e w1 ⟨rfl, hb1⟩
  have hb1' := Hb0.out.trans (hb1.mono Hb0.out.size)
  cases lt
  · go_wp2_with fail
    refine (Hans.out _ hb1).mono ?_; rintro e w2 ⟨rfl, hb2⟩
    go_wp2
    go_ret
    exact ⟨rfl, hb1'.trans (hb2.mono hb1'.size)⟩
  · by_cases hbig : 500 < more.length
    · have hbgi : (500 : Int) < (more.length : Int) := by omega
      go_wp2_with fail
      refine (Hans.out _ hb1).mono ?_; rintro e w2 ⟨rfl, hb2⟩
      go_wp2
      go_ret
      exact ⟨rfl, hb1'.trans (hb2.mono hb1'.size)⟩
    · have hbgi : (more.length : Int) ≤ 500 := by omega
      have hsm := small_of_light Hlt.out
      obtain ⟨hl1, hl2, hl3, hl4⟩ := (light_iff m).1 Hlt.out
      have hl1' : m.rcpts.length ≤ 50 := by rcases hl1 with h | h; rw [h]; decide; exact h
      have hm1 := Hnew.out.below hb1
      have howc := own_calls m (.slice ar m.rcpts.length capr) (.slice ab m.body.length capb) w1 hm1.rs hm1.rb Hnr.out Hnb.out (by omega) (by omega)
      obtain ⟨y0, y1, y2, y3, y4, y5⟩ := hm1.cells
      have Howc := Lib.hid howc
      have Hsm := Lib.hid hsm
      have Hl2 := Lib.hid hl2
      clear howc hsm hm1 hl1 hl2
      go_wp2_with fail
      refine (Howc.out).mono ?_; rintro e w2 ⟨vr2, vb2, rfl, hoL, hoT, hb2⟩
      have hW2 := hb1.trans (hb2.mono hb1.size)
      have hb2' := hb1'.trans (hb2.mono hb1'.size)
      have hm2 := Hnew.out.below hW2
      obtain ⟨a2, c2, hv2⟩ := own_form0 hoL
      obtain ⟨a2', c2', hv2'⟩ := own_form0 hoT
      subst hv2
      subst hv2'
      obtain ⟨gd, hgd⟩ : ∃ gd, m.good = gd := ⟨_, rfl⟩
      cases gd
      · have hbad := encode_bad m _ _ w2 (rdL_ofOwn s1_len (by decide) hoL) (rdB_ofOwn hoT) (fun l h => by have := Hsm.out.2 l h; omega) (by have := Hsm.out.1; omega) (HmaxW.out.below hW2) hgd
        have Hbad := Lib.hid hbad
        have hgood := fun W h1 h2 => refGood_calls m (.slice ar m.rcpts.length capr) (.slice ab m.body.length capb) W h1 h2 (fun l h => by have := Hsm.out.2 l h; omega) (by have := Hsm.out.1; omega)
        have hgood2 := fun W h1 h2 h3 => envGood_calls m (.slice ar m.rcpts.length capr) (.slice ab m.body.length capb) W h1 h2 (fun l h => by have := Hsm.out.2 l h; omega) (by have := Hsm.out.1; omega) h3
        rw [hgd] at hgood hgood2
        have Hgood := Lib.hid hgood
        have Hgood2 := Lib.hid hgood2
        clear hbad hoL hoT hm2 hgd hgood hgood2
        go_wp2_with fail
        refine (Hbad.out).mono ?_; rintro e w3 ⟨hbd, hb3⟩
        unfold EncBad at hbd
        subst hbd
        have hW3 := hW2.trans (hb3.mono hW2.size)
        have hb3' := hb2'.trans (hb3.mono hb2'.size)
        have hm3 := Hnew.out.below hW3
        obtain ⟨z0, z1, z2, z3, z4, z5⟩ := hm3.cells
        have hgc := Hgood.out w3 hm3.rs hm3.rb
        have Hgc := Lib.hid hgc
        clear hgc hm3
        go_wp2_with fail
        refine (Hgc.out).mono ?_; rintro e w4 ⟨rfl, hb4⟩
        have hW4 := hW3.trans (hb4.mono hW3.size)
        have hb4' := hb3'.trans (hb4.mono hb3'.size)
        go_wp2_with fail
        refine (Hans.out _ hW4).mono ?_; rintro e w5 ⟨rfl, hb5⟩
        have hW5 := hW4.trans (hb5.mono hW4.size)
        have hb5' := hb4'.trans (hb5.mono hb4'.size)
        have hm5 := Hnew.out.below hW5
        obtain ⟨q0, q1, q2, q3, q4, q5⟩ := hm5.cells
        have hgc := Hgood2.out w5 hm5.rs hm5.rb (HmaxW.out.below hW5)
        have Hgc2 := Lib.hid hgc
        clear hgc hm5
        go_wp2_with fail
        refine (Hgc2.out).mono ?_; rintro e w6 ⟨rfl, hb6⟩
        go_wp2
        go_ret
        exact ⟨rfl, hb5'.trans (hb6.mono hb5'.size)⟩
      · have henc := encode_good m _ _ w2 (rdL_ofOwn s1_len (by decide) hoL) (rdB_ofOwn hoT) (nilOk_own hoT) Hsm.out (HmaxW.out.below hW2) hgd (fun k hk => (hoL.lt k hk).2) (fun k hk => (hoT.lt k hk).2)
        have hgood := fun W h1 h2 => refGood_calls m (.slice ar m.rcpts.length capr) (.slice ab m.body.length capb) W h1 h2 (fun l h => by have := Hsm.out.2 l h; omega) (by have := Hsm.out.1; omega)
        have hgood2 := fun W h1 h2 h3 => envGood_calls m (.slice ar m.rcpts.length capr) (.slice ab m.body.length capb) W h1 h2 (fun l h => by have := Hsm.out.2 l h; omega) (by have := Hsm.out.1; omega) h3
        have hrec := fun W h1 h2 => record_calls m (.slice ar m.rcpts.length capr) (.slice ab m.body.length capb) W h1 h2 Hnb.out Hsm.out hgd
        have hrl := record_length m
        have hin := inner_small m Hsm.out ((good_iff m).1 hgd).2.2.2.1.2 ((good_iff m).1 hgd).2.2.2.2.1
        have hdr := decode_record m Hsm.out hgd more
        have hsame := fun ra ba W h1 h2 h3 h4 => refSame_calls m m ra ba (.slice ar m.rcpts.length capr) (.slice ab m.body.length capb) W h1 h2 h3 h4
        rw [show decide (m = m) = true by simp] at hsame
        rw [hgd] at hgood hgood2
        generalize hR : m.record = R at henc hrec hrl hdr
        have hRl : R.length ≤ 1000012 := by omega
        have hd := fun v W h1 h2 => envDecode_calls v (R ++ more) W h1 (by rw [List.length_append]; omega) h2
        rw [hdr] at hd
        have Henc := Lib.hid henc
        have Hgood := Lib.hid hgood
        have Hgood2 := Lib.hid hgood2
        have Hrec := Lib.hid hrec
        have Hd := Lib.hid hd
        have Hsame := Lib.hid hsame
        have HRl := Lib.hid hRl
        clear henc hoL hoT hm2 hgd hgood hgood2 hrec hrl hin hdr hd hsame hR hRl
        go_wp2_with fail
        refine (Henc.out).mono ?_; rintro e w3 ⟨v3, rfl, hown3, hb3⟩
        have hW3 := hW2.trans (hb3.mono hW2.size)
        have hb3' := hb2'.trans (hb3.mono hb2'.size)
        have hm3 := Hnew.out.below hW3
        obtain ⟨z0, z1, z2, z3, z4, z5⟩ := hm3.cells
        have hgc := Hgood.out w3 hm3.rs hm3.rb
        have Hgc := Lib.hid hgc
        obtain ⟨a3, cap3, hv3⟩ := own_form0 hown3
        subst hv3
        have Hown3 := Lib.hid hown3
        clear hgc hm3 hown3
        go_wp2_with fail
        refine (Hgc.out).mono ?_; rintro e w4 ⟨rfl, hb4⟩
        have hW4 := hW3.trans (hb4.mono hW3.size)
        have hb4' := hb3'.trans (hb4.mono hb3'.size)
        obtain ⟨W5, hW5⟩ : ∃ W5, w4.alloc (.cells #[] 5) = W5 := ⟨_, rfl⟩
        have hb5a : Below w4.heap.size w4 W5 := by rw [← hW5]; exact (Below.refl _ _).alloc (Nat.le_refl _) _
        have hown0 : W5.ownsRow w4.heap.size 5 1 (.slice (some ⟨w4.heap.size, 0, none⟩) 0 0) 0 [] := by rw [← hW5]; exact World.ownsRow_lit w4 #[] 0 (Nat.le_refl _) (by decide) rfl
        have hown34 := own_below Hown3.out hb4 (Nat.le_refl _)
        have hsrc := rdLB (rdB_ofOwn (own_below hown34 hb5a (Nat.le_refl _)))
        have hone := bb1_one R
        have hone2 := bb1_one more
        have hRl := HRl.out
        have hm1' : 0 + R.length ≤ maxLen := by show _ ≤ 9223372036854775807; omega
        have hm2' : (0 + R.length) * 1 ≤ 140737488355328 := by omega
        have hm3' : R.length + more.length ≤ maxLen := by show _ ≤ 9223372036854775807; omega
        have hm4' : (R.length + more.length) * 1 ≤ 140737488355328 := by omega
        have hbsz := hb5a.size
        have hnil := nilOk_own Hown3.out
        have Hone := Lib.hid hone
        have Hone2 := Lib.hid hone2
        have Hsrc := Lib.hid hsrc
        have Hown0 := Lib.hid hown0
        have Hb5a := Lib.hid hb5a
        have Hnil := Lib.hid hnil
        have Hm1 := Lib.hid hm1'
        have Hm2 := Lib.hid hm2'
        have Hm3 := Lib.hid hm3'
        have Hm4 := Lib.hid hm4'
        have hv4 := Hown3.out
        have Hv4 := Lib.hid (HvW.out.below (Nat.le_refl _) hW4)
        clear hone hone2 hsrc hown0 hb5a hnil hm1' hm2' hm3' hm4' hown34 hv4
        subst hW5
        go_wp2_with (at_builtin; first
          | (refine wpList_append_any bb1_len (by decide) rfl (.tmp 44) (.tmp 45) 23 rfl w4.heap.size 5 i0 (.int .u8 0) 1 Tryz.underlying23 hi hz0 hz1 hz2 rfl _ _ _ rfl Hown0.out _ R rfl Hsrc.out Hnil.out Hone.out Hm1.out Hm2.out hbsz ?_; rintro v6 w6 hown6 hg6 _; rw [Nat.zero_add, List.nil_append, bb1_flat] at hown6; have hB6 := Hb5a.out.grown hg6 Hb5a.out.size (fun k hk => by cases hk; exact Nat.le_refl _); have hsrc6 := rdLB (Hv4.out.below (Nat.le_refl _) hB6); have hbsz6 := hB6.size; clear hg6)
          | (refine wpList_append_any bb1_len (by decide) rfl (.tmp 46) (.tmp 47) 23 rfl w4.heap.size 5 i0 (.int .u8 0) 1 Tryz.underlying23 hi hz0 hz1 hz2 rfl _ _ _ rfl hown6 _ more rfl hsrc6 Hnv.out Hone2.out Hm3.out Hm4.out hbsz6 ?_; rintro v7 w7 hown7 hg7 _; rw [bb1_flat, ← List.map_append, ← List.length_append] at hown7; have hB7 := hB6.grown hg7 hbsz6 (fun k hk => own_base hown6 k hk)))
        have hW7 := hW4.trans (hB7.mono hW4.size)
        have hb7' := hb4'.trans (hB7.mono hb4'.size)
        have hcall := Hd.out v7 w7 (rdB_ofOwn hown7) (HmaxW.out.below hW7)
        have Hcall := Lib.hid hcall
        have hown37 := own_below (own_below Hown3.out hb4 (Nat.le_refl _)) hB7 (Nat.le_refl _)
        obtain ⟨a7, c7, hv7⟩ := own_form0 hown7
        subst hv7
        have Hown37 := Lib.hid hown37
        clear hcall hown37 hown7 hg7 hsrc6 hown6 Hown0 Hsrc Hown3 Hv4
        refine (Hcall.out).mono ?_; rintro e w8 ⟨vr8, vb8, rfl, hoL8, hoT8, hb8⟩
        have hoL8 : w8.ownsRow w7.heap.size 9 1 vr8 m.rcpts.length (m.rcpts.flatMap s1) := hoL8
        have hoT8 : w8.ownsRow w7.heap.size 5 1 vb8 m.body.length (m.body.map u8v) := hoT8
        have he : mailVal ((some (m, R.length)).elim MailD.zero Prod.fst) vr8 vb8 = mailVal m vr8 vb8 := rfl
        have hel : (Option.elim (some (m, R.length)) 0 Prod.snd : Nat) = R.length := rfl
        have hsmm : Option.isSome (some (m, R.length)) = true := rfl
        rw [he, hel, hsmm]
        have hW8 := hW7.trans (hb8.mono hW7.size)
        have hb8' := hb7'.trans (hb8.mono hb7'.size)
        obtain ⟨a8, c8, hv8⟩ := own_form0 hoL8
        obtain ⟨a8', c8', hv8'⟩ := own_form0 hoT8
        subst hv8
        subst hv8'
        have hm9 := MailAt.new (m := m) (rdL_ofOwn s1_len (by decide) hoL8) (rdB_ofOwn hoT8)
        obtain ⟨w9, hw9⟩ : ∃ w9, w8.alloc (.cells #[.int .i64 m.id, .int .i64 m.parent, .int .i64 m.born, .string (strL m.frm), .slice a8 m.rcpts.length c8, .slice a8' m.body.length c8'] 25) = w9 := ⟨_, rfl⟩
        have hb9 : Below w8.heap.size w8 w9 := by rw [← hw9]; exact (Below.refl _ _).alloc (Nat.le_refl _) _
        rw [hw9] at hm9
        have hW9 := hW8.trans (hb9.mono hW8.size)
        have hb9' := hb8'.trans (hb9.mono hb8'.size)
        have hm8 := Hnew.out.below hW9
        have hrb9 := ((rdB_ofOwn Hown37.out).below (Nat.le_refl _) hb8).below (Nat.le_refl _) hb9
        have hrest : EncRest w9 w.heap.size w8.heap.size m (.slice ar m.rcpts.length capr) (.slice ab m.body.length capb) (.slice a8 m.rcpts.length c8) (.slice a8' m.body.length c8') (.slice a3 R.length cap3) R w9 := ⟨Below.refl _ _, hm8, hm9, hrb9⟩
        have hcvs := fun W v' (h : RdB W v' R) => run_strL h
        generalize hsr : strL R = sr at *
        have Hsr := Lib.hid hsr
        have hS := EncS.go Hsr ((Below.refl _ _).drew) (EncS.of hsr hrest)
        have HS := Lib.hid hS
        have getR : Hid (∀ W, EncS w9 w.heap.size w8.heap.size m (.slice ar m.rcpts.length capr) (.slice ab m.body.length capb) (.slice a8 m.rcpts.length c8) (.slice a8' m.body.length c8') (.slice a3 R.length cap3) R sr W → EncRest w9 w.heap.size w8.heap.size m (.slice ar m.rcpts.length capr) (.slice ab m.body.length capb) (.slice a8 m.rcpts.length c8) (.slice a8' m.body.length c8') (.slice a3 R.length cap3) R W) := fun W h => h.2.2.2.2.2.2.2.2.2.2.2.2.2
        have Hcvs := Lib.hid hcvs
        have Hans9 : Hid (∀ W, Below w9.heap.size w9 W → Calls Tryz.prog 13 #[] W fun e w' => e = .returned (.bool true) ∧ Below W.heap.size W w') := fun W h => Hans.out W (hW9.trans (h.mono hW9.size))
        have Hmax9 : Hid (∀ W, Below w9.heap.size w9 W → MaxOk W) := fun W h => HmaxW.out.below (hW9.trans (h.mono hW9.size))
        have Hw9 := Lib.hid hw9
        have Hfin9 : Hid (∀ W, Below w9.heap.size w9 W → Below w.heap.size w W) := fun W h => hb9'.trans (h.mono hb9'.size)
        clear hsr hS hcvs hrest hm8 hm9 hrb9 hoL8 hoT8 he hel hsmm Hown37 hw9 hb9 hW9 hb9'
        go_wp2
        rw [Hw9.out]
        generalize hX : w8.heap.size = X at *
        clear hX
        refine wp_region_noPanic ?_
        refine wp_region_held_drew (S := (fun w' => w'.cell? ⟨w.heap.size, 0, none⟩ = some (.int .i64 m.id) ∧ w'.cell? ⟨w.heap.size, 1, none⟩ = some (.int .i64 m.parent) ∧ w'.cell? ⟨w.heap.size, 2, none⟩ = some (.int .i64 m.born) ∧ w'.cell? ⟨w.heap.size, 3, none⟩ = some (.string (strL m.frm)) ∧ w'.cell? ⟨w.heap.size, 4, none⟩ = some (.slice ar m.rcpts.length capr) ∧ w'.cell? ⟨w.heap.size, 5, none⟩ = some (.slice ab m.body.length capb) ∧ w'.cell? ⟨X, 0, none⟩ = some (.int .i64 m.id) ∧ w'.cell? ⟨X, 1, none⟩ = some (.int .i64 m.parent) ∧ w'.cell? ⟨X, 2, none⟩ = some (.int .i64 m.born) ∧ w'.cell? ⟨X, 3, none⟩ = some (.string (strL m.frm)) ∧ w'.cell? ⟨X, 4, none⟩ = some (.slice a8 m.rcpts.length c8) ∧ w'.cell? ⟨X, 5, none⟩ = some (.slice a8' m.body.length c8') ∧ (convert 23 9 (.slice a3 R.length cap3)).run Tryz.prog w' = .ok (.string sr) w' ∧ EncRest w9 w.heap.size X m (.slice ar m.rcpts.length capr) (.slice ab m.body.length capb) (.slice a8 m.rcpts.length c8) (.slice a8' m.body.length c8') (.slice a3 R.length cap3) R w')) (by kernel_rfl) (by first | with_reducible exact HS.out | with_reducible assumption) (fun hHeld => ?_)
        refine wpAnyH_ready (rs := [0]) (by kernel_rfl) (by simp) ?_
        refine AllReadyH.cons (o := _) (by simp only [List.getElem?_toArray, List.getElem?_cons_succ, List.getElem?_cons_zero]; rfl) (fun K hK => ?_) AllReadyH.nil
        go_simp
        (go_at_call 13; refine (Hans9.out _ (getR.out _ HS.out).1).mono ?_; rintro e wa ⟨rfl, hba⟩; have hSa := EncS.go Hsr hba HS.out)
        refine hK.out _ _ (by (try dsimp only); first | with_reducible exact HS.out | with_reducible assumption) (fun hHeld => ?_)
        clear hK K
        try simp only [Act.put, List.setIfInBounds_toArray, List.set_cons_zero, List.set_cons_succ]
        refine wpAnyH_take (i := 1) (oi := _) (v := ?_) (by simp only [List.getElem?_toArray, List.getElem?_cons_succ, List.getElem?_cons_zero]; rfl) (by kernel_rfl) (by kernel_rfl) (by kernel_rfl) (fun _ _ _ h => h) (Or.inl ⟨by rfl, ?_⟩) (by assumption) ?_
        rotate_left
        · intro w hSw; (try dsimp only at hSw); go_simp; (try with_reducible rfl)
        try simp only [Act.put, List.setIfInBounds_toArray, List.set_cons_zero, List.set_cons_succ]
        refine wpAnyH_take (i := 2) (oi := _) (v := ?_) (by simp only [List.getElem?_toArray, List.getElem?_cons_succ, List.getElem?_cons_zero]; rfl) (by kernel_rfl) (by kernel_rfl) (by kernel_rfl) (fun _ _ _ h => h) (Or.inl ⟨by rfl, ?_⟩) (by assumption) ?_
        rotate_left
        · intro w hSw; (try dsimp only at hSw); go_simp; (try with_reducible rfl)
        try simp only [Act.put, List.setIfInBounds_toArray, List.set_cons_zero, List.set_cons_succ]
        refine wpAnyH_take (i := 3) (oi := _) (v := ?_) (by simp only [List.getElem?_toArray, List.getElem?_cons_succ, List.getElem?_cons_zero]; rfl) (by kernel_rfl) (by kernel_rfl) (by kernel_rfl) (fun _ _ _ h => h) (Or.inl ⟨by rfl, ?_⟩) (by assumption) ?_
        rotate_left
        · intro w hSw; (try dsimp only at hSw); go_simp; (try with_reducible rfl)
        try simp only [Act.put, List.setIfInBounds_toArray, List.set_cons_zero, List.set_cons_succ]
        refine wpAnyH_take (i := 4) (oi := _) (v := ?_) (by simp only [List.getElem?_toArray, List.getElem?_cons_succ, List.getElem?_cons_zero]; rfl) (by kernel_rfl) (by kernel_rfl) (by kernel_rfl) (fun _ _ _ h => h) (Or.inl ⟨by rfl, ?_⟩) (by assumption) ?_
        rotate_left
        · intro w hSw; (try dsimp only at hSw); go_simp; (try with_reducible rfl)
        try simp only [Act.put, List.setIfInBounds_toArray, List.set_cons_zero, List.set_cons_succ]
        refine wpAnyH_take (i := 5) (oi := _) (v := ?_) (by simp only [List.getElem?_toArray, List.getElem?_cons_succ, List.getElem?_cons_zero]; rfl) (by kernel_rfl) (by kernel_rfl) (by kernel_rfl) (fun _ _ _ h => h) (Or.inl ⟨by rfl, ?_⟩) (by assumption) ?_
        rotate_left
        · intro w hSw; (try dsimp only at hSw); go_simp; (try with_reducible rfl)
        try simp only [Act.put, List.setIfInBounds_toArray, List.set_cons_zero, List.set_cons_succ]
        refine wpAnyH_ready (rs := [6]) (by kernel_rfl) (by simp) ?_
        refine AllReadyH.cons (o := _) (by simp only [List.getElem?_toArray, List.getElem?_cons_succ, List.getElem?_cons_zero]; rfl) (fun K hK => ?_) AllReadyH.nil
        go_simp
        (go_at_call 17; refine (Hgood2.out _ (getR.out _ hSa).2.1.rs (getR.out _ hSa).2.1.rb (Hmax9.out _ (getR.out _ hSa).1)).mono ?_; rintro e wb ⟨rfl, hbb⟩; have hSb := EncS.go Hsr hbb hSa)
        refine hK.out _ _ (by (try dsimp only); first | with_reducible exact HS.out | with_reducible assumption) (fun hHeld => ?_)
        clear hK K
        try simp only [Act.put, List.setIfInBounds_toArray, List.set_cons_zero, List.set_cons_succ]
        refine wpAnyH_take (i := 7) (oi := _) (v := ?_) (by simp only [List.getElem?_toArray, List.getElem?_cons_succ, List.getElem?_cons_zero]; rfl) (by kernel_rfl) (by kernel_rfl) (by kernel_rfl) (fun _ _ _ h => h) (Or.inl ⟨by rfl, ?_⟩) (by assumption) ?_
        rotate_left
        · intro w hSw; (try dsimp only at hSw); go_simp; (try with_reducible rfl)
        try simp only [Act.put, List.setIfInBounds_toArray, List.set_cons_zero, List.set_cons_succ]
        refine wpAnyH_take (i := 8) (oi := _) (v := ?_) (by simp only [List.getElem?_toArray, List.getElem?_cons_succ, List.getElem?_cons_zero]; rfl) (by kernel_rfl) (by kernel_rfl) (by kernel_rfl) (fun _ _ _ h => h) (Or.inl ⟨by rfl, ?_⟩) (by assumption) ?_
        rotate_left
        · intro w hSw; (try dsimp only at hSw); go_simp; (try with_reducible rfl)
        try simp only [Act.put, List.setIfInBounds_toArray, List.set_cons_zero, List.set_cons_succ]
        refine wpAnyH_take (i := 9) (oi := _) (v := ?_) (by simp only [List.getElem?_toArray, List.getElem?_cons_succ, List.getElem?_cons_zero]; rfl) (by kernel_rfl) (by kernel_rfl) (by kernel_rfl) (fun _ _ _ h => h) (Or.inl ⟨by rfl, ?_⟩) (by assumption) ?_
        rotate_left
        · intro w hSw; (try dsimp only at hSw); go_simp; (try with_reducible rfl)
        try simp only [Act.put, List.setIfInBounds_toArray, List.set_cons_zero, List.set_cons_succ]
        refine wpAnyH_take (i := 10) (oi := _) (v := ?_) (by simp only [List.getElem?_toArray, List.getElem?_cons_succ, List.getElem?_cons_zero]; rfl) (by kernel_rfl) (by kernel_rfl) (by kernel_rfl) (fun _ _ _ h => h) (Or.inl ⟨by rfl, ?_⟩) (by assumption) ?_
        rotate_left
        · intro w hSw; (try dsimp only at hSw); go_simp; (try with_reducible rfl)
        try simp only [Act.put, List.setIfInBounds_toArray, List.set_cons_zero, List.set_cons_succ]
        refine wpAnyH_take (i := 11) (oi := _) (v := ?_) (by simp only [List.getElem?_toArray, List.getElem?_cons_succ, List.getElem?_cons_zero]; rfl) (by kernel_rfl) (by kernel_rfl) (by kernel_rfl) (fun _ _ _ h => h) (Or.inl ⟨by rfl, ?_⟩) (by assumption) ?_
        rotate_left
        · intro w hSw; (try dsimp only at hSw); go_simp; (try with_reducible rfl)
        try simp only [Act.put, List.setIfInBounds_toArray, List.set_cons_zero, List.set_cons_succ]
        refine wpAnyH_ready (rs := [12]) (by kernel_rfl) (by simp) ?_
        refine AllReadyH.cons (o := _) (by simp only [List.getElem?_toArray, List.getElem?_cons_succ, List.getElem?_cons_zero]; rfl) (fun K hK => ?_) AllReadyH.nil
        go_simp
        (go_at_call 19; refine (Hrec.out _ (getR.out _ hSb).2.1.rs (getR.out _ hSb).2.1.rb).mono ?_; rintro e wc ⟨vc, rfl, hoc, hbc⟩; have hSc := EncS.go Hsr hbc hSb; have hcc := Hcvs.out _ _ (rdB_ofOwn hoc))
        refine hK.out _ _ (by (try dsimp only); first | with_reducible exact HS.out | with_reducible assumption) (fun hHeld => ?_)
        clear hK K
        try simp only [Act.put, List.setIfInBounds_toArray, List.set_cons_zero, List.set_cons_succ]
        refine wpAnyH_ready (rs := [13]) (by kernel_rfl) (by simp) ?_
        refine AllReadyH.cons (o := _) (by simp only [List.getElem?_toArray, List.getElem?_cons_succ, List.getElem?_cons_zero]; rfl) (fun K hK => ?_) AllReadyH.nil
        go_simp
        refine hK.out _ _ (by (try dsimp only); first | with_reducible exact HS.out | with_reducible assumption) (fun hHeld => ?_)
        clear hK K
        try simp only [Act.put, List.setIfInBounds_toArray, List.set_cons_zero, List.set_cons_succ]
        refine wpAnyH_take (i := 14) (oi := _) (v := ?_) (by simp only [List.getElem?_toArray, List.getElem?_cons_succ, List.getElem?_cons_zero]; rfl) (by kernel_rfl) (by kernel_rfl) (by kernel_rfl) (fun _ _ _ h => h) (Or.inl ⟨by rfl, ?_⟩) (by assumption) ?_
        rotate_left
        · intro w hSw; (try dsimp only at hSw); go_simp; (try with_reducible rfl)
        try simp only [Act.put, List.setIfInBounds_toArray, List.set_cons_zero, List.set_cons_succ]
        refine wpAnyH_take (i := 15) (oi := _) (v := ?_) (by simp only [List.getElem?_toArray, List.getElem?_cons_succ, List.getElem?_cons_zero]; rfl) (by kernel_rfl) (by kernel_rfl) (by kernel_rfl) (fun _ _ _ h => h) (Or.inl ⟨by rfl, ?_⟩) (by assumption) ?_
        rotate_left
        · intro w hSw; (try dsimp only at hSw); go_simp; (try with_reducible rfl)
        try simp only [Act.put, List.setIfInBounds_toArray, List.set_cons_zero, List.set_cons_succ]
        refine wpAnyH_take (i := 16) (oi := _) (v := ?_) (by simp only [List.getElem?_toArray, List.getElem?_cons_succ, List.getElem?_cons_zero]; rfl) (by kernel_rfl) (by kernel_rfl) (by kernel_rfl) (fun _ _ _ h => h) (Or.inl ⟨by rfl, ?_⟩) (by assumption) ?_
        rotate_left
        · intro w hSw; (try dsimp only at hSw); go_simp; (try with_reducible rfl)
        try simp only [Act.put, List.setIfInBounds_toArray, List.set_cons_zero, List.set_cons_succ]
        refine wpAnyH_take (i := 17) (oi := _) (v := ?_) (by simp only [List.getElem?_toArray, List.getElem?_cons_succ, List.getElem?_cons_zero]; rfl) (by kernel_rfl) (by kernel_rfl) (by kernel_rfl) (fun _ _ _ h => h) (Or.inl ⟨by rfl, ?_⟩) (by assumption) ?_
        rotate_left
        · intro w hSw; (try dsimp only at hSw); go_simp; (try with_reducible rfl)
        try simp only [Act.put, List.setIfInBounds_toArray, List.set_cons_zero, List.set_cons_succ]
        refine wpAnyH_take (i := 18) (oi := _) (v := ?_) (by simp only [List.getElem?_toArray, List.getElem?_cons_succ, List.getElem?_cons_zero]; rfl) (by kernel_rfl) (by kernel_rfl) (by kernel_rfl) (fun _ _ _ h => h) (Or.inl ⟨by rfl, ?_⟩) (by assumption) ?_
        rotate_left
        · intro w hSw; (try dsimp only at hSw); go_simp; (try with_reducible rfl)
        try simp only [Act.put, List.setIfInBounds_toArray, List.set_cons_zero, List.set_cons_succ]
        refine wpAnyH_take (i := 19) (oi := _) (v := ?_) (by simp only [List.getElem?_toArray, List.getElem?_cons_succ, List.getElem?_cons_zero]; rfl) (by kernel_rfl) (by kernel_rfl) (by kernel_rfl) (fun _ _ _ h => h) (Or.inl ⟨by rfl, ?_⟩) (by assumption) ?_
        rotate_left
        · intro w hSw; (try dsimp only at hSw); go_simp; (try with_reducible rfl)
        try simp only [Act.put, List.setIfInBounds_toArray, List.set_cons_zero, List.set_cons_succ]
        refine wpAnyH_take (i := 20) (oi := _) (v := ?_) (by simp only [List.getElem?_toArray, List.getElem?_cons_succ, List.getElem?_cons_zero]; rfl) (by kernel_rfl) (by kernel_rfl) (by kernel_rfl) (fun _ _ _ h => h) (Or.inl ⟨by rfl, ?_⟩) (by assumption) ?_
        rotate_left
        · intro w hSw; (try dsimp only at hSw); go_simp; (try with_reducible rfl)
        try simp only [Act.put, List.setIfInBounds_toArray, List.set_cons_zero, List.set_cons_succ]
        refine wpAnyH_take (i := 21) (oi := _) (v := ?_) (by simp only [List.getElem?_toArray, List.getElem?_cons_succ, List.getElem?_cons_zero]; rfl) (by kernel_rfl) (by kernel_rfl) (by kernel_rfl) (fun _ _ _ h => h) (Or.inl ⟨by rfl, ?_⟩) (by assumption) ?_
        rotate_left
        · intro w hSw; (try dsimp only at hSw); go_simp; (try with_reducible rfl)
        try simp only [Act.put, List.setIfInBounds_toArray, List.set_cons_zero, List.set_cons_succ]
        refine wpAnyH_take (i := 22) (oi := _) (v := ?_) (by simp only [List.getElem?_toArray, List.getElem?_cons_succ, List.getElem?_cons_zero]; rfl) (by kernel_rfl) (by kernel_rfl) (by kernel_rfl) (fun _ _ _ h => h) (Or.inl ⟨by rfl, ?_⟩) (by assumption) ?_
        rotate_left
        · intro w hSw; (try dsimp only at hSw); go_simp; (try with_reducible rfl)
        try simp only [Act.put, List.setIfInBounds_toArray, List.set_cons_zero, List.set_cons_succ]
        refine wpAnyH_take (i := 23) (oi := _) (v := ?_) (by simp only [List.getElem?_toArray, List.getElem?_cons_succ, List.getElem?_cons_zero]; rfl) (by kernel_rfl) (by kernel_rfl) (by kernel_rfl) (fun _ _ _ h => h) (Or.inl ⟨by rfl, ?_⟩) (by assumption) ?_
        rotate_left
        · intro w hSw; (try dsimp only at hSw); go_simp; (try with_reducible rfl)
        try simp only [Act.put, List.setIfInBounds_toArray, List.set_cons_zero, List.set_cons_succ]
        refine wpAnyH_take (i := 24) (oi := _) (v := ?_) (by simp only [List.getElem?_toArray, List.getElem?_cons_succ, List.getElem?_cons_zero]; rfl) (by kernel_rfl) (by kernel_rfl) (by kernel_rfl) (fun _ _ _ h => h) (Or.inl ⟨by rfl, ?_⟩) (by assumption) ?_
        rotate_left
        · intro w hSw; (try dsimp only at hSw); go_simp; (try with_reducible rfl)
        try simp only [Act.put, List.setIfInBounds_toArray, List.set_cons_zero, List.set_cons_succ]
        refine wpAnyH_take (i := 25) (oi := _) (v := ?_) (by simp only [List.getElem?_toArray, List.getElem?_cons_succ, List.getElem?_cons_zero]; rfl) (by kernel_rfl) (by kernel_rfl) (by kernel_rfl) (fun _ _ _ h => h) (Or.inl ⟨by rfl, ?_⟩) (by assumption) ?_
        rotate_left
        · intro w hSw; (try dsimp only at hSw); go_simp; (try with_reducible rfl)
        try simp only [Act.put, List.setIfInBounds_toArray, List.set_cons_zero, List.set_cons_succ]
        refine wpAnyH_take (i := 26) (oi := _) (v := ?_) (by simp only [List.getElem?_toArray, List.getElem?_cons_succ, List.getElem?_cons_zero]; rfl) (by kernel_rfl) (by kernel_rfl) (by kernel_rfl) (fun _ _ _ h => h) (Or.inl ⟨by rfl, ?_⟩) (by assumption) ?_
        rotate_left
        · intro w hSw; (try dsimp only at hSw); go_simp; (try with_reducible rfl)
        try simp only [Act.put, List.setIfInBounds_toArray, List.set_cons_zero, List.set_cons_succ]
        refine wpAnyH_take (i := 27) (oi := _) (v := ?_) (by simp only [List.getElem?_toArray, List.getElem?_cons_succ, List.getElem?_cons_zero]; rfl) (by kernel_rfl) (by kernel_rfl) (by kernel_rfl) (fun _ _ _ h => h) (Or.inl ⟨by rfl, ?_⟩) (by assumption) ?_
        rotate_left
        · intro w hSw; (try dsimp only at hSw); go_simp; (try with_reducible rfl)
        try simp only [Act.put, List.setIfInBounds_toArray, List.set_cons_zero, List.set_cons_succ]
        refine wpAnyH_ready (rs := [28]) (by kernel_rfl) (by simp) ?_
        refine AllReadyH.cons (o := _) (by simp only [List.getElem?_toArray, List.getElem?_cons_succ, List.getElem?_cons_zero]; rfl) (fun K hK => ?_) AllReadyH.nil
        go_simp
        (go_at_call 20; refine (Hsame.out _ _ _ (getR.out _ hSc).2.2.1.rs (getR.out _ hSc).2.2.1.rb (getR.out _ hSc).2.1.rs (getR.out _ hSc).2.1.rb).mono ?_; rintro e wd ⟨rfl, hbd⟩; have hSd := EncS.go Hsr hbd hSc; have hfin := Hfin9.out _ (getR.out _ hSd).1)
        refine hK.out _ _ (by (try dsimp only); first | with_reducible exact HS.out | with_reducible assumption) (fun hHeld => ?_)
        clear hK K
        try simp only [Act.put, List.setIfInBounds_toArray, List.set_cons_zero, List.set_cons_succ]
        refine wpAnyH_take (i := 29) (oi := _) (v := ?_) (by simp only [List.getElem?_toArray, List.getElem?_cons_succ, List.getElem?_cons_zero]; rfl) (by kernel_rfl) (by kernel_rfl) (by kernel_rfl) (fun _ _ _ h => h) (Or.inl ⟨by rfl, ?_⟩) (by assumption) ?_
        rotate_left
        · intro w hSw; (try dsimp only at hSw); go_simp; (try with_reducible rfl)
        try simp only [Act.put, List.setIfInBounds_toArray, List.set_cons_zero, List.set_cons_succ]
        refine wpAnyH_take (i := 30) (oi := _) (v := ?_) (by simp only [List.getElem?_toArray, List.getElem?_cons_succ, List.getElem?_cons_zero]; rfl) (by kernel_rfl) (by kernel_rfl) (by kernel_rfl) (fun _ _ _ h => h) (Or.inl ⟨by rfl, ?_⟩) (by assumption) ?_
        rotate_left
        · intro w hSw; (try dsimp only at hSw); go_simp; (try with_reducible rfl)
        try simp only [Act.put, List.setIfInBounds_toArray, List.set_cons_zero, List.set_cons_succ]
        refine wpAnyH_done (by kernel_rfl) ?_ _
        refine NoPanic.normal ?_
        go_wp2
        go_ret
        exact ⟨rfl, hfin⟩
end Go.Proofs.YtjddicoigbidlaaGreatDoor
