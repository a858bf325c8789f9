/-
  The walk of pillarboxlaw10.answers.
  The walk of the law EnvSame.
-/
import Derived.Test.YtjddicoigbidlaaDoorE4
set_option linter.unusedSimpArgs false
set_option linter.unusedVariables false
namespace Go.Proofs.YtjddicoigbidlaaDoor
open Go.RowKit
/-- A mail in a block of its own, and what its slices hold. -/
structure MailAt (w : World) (M : Nat) (m : MailD) (vr vb : Value) : Prop where
  blk : w.heap[M]? = some (.cells #[.int .i64 m.id, .int .i64 m.parent, .int .i64 m.born, .string (strL m.frm), vr, vb] 25 (0, 0))
  rs : RdS w vr m.rcpts
  rb : RdB w vb m.body
theorem MailAt.below {w w' : World} {M : Nat} {m : MailD} {vr vb : Value} (h : MailAt w M m vr vb) (hb : Below w.heap.size w w') : MailAt w' M m vr vb :=
  ⟨(hb.block _ (Array.getElem?_eq_some_iff.1 h.blk).1).trans h.blk, h.rs.below (Nat.le_refl _) hb, h.rb.below (Nat.le_refl _) hb⟩
theorem MailAt.cells {w : World} {M : Nat} {m : MailD} {vr vb : Value} (h : MailAt w M m vr vb) : w.cell? ⟨M, 0, none⟩ = some (.int .i64 m.id) ∧ w.cell? ⟨M, 1, none⟩ = some (.int .i64 m.parent) ∧ w.cell? ⟨M, 2, none⟩ = some (.int .i64 m.born) ∧ w.cell? ⟨M, 3, none⟩ = some (.string (strL m.frm)) ∧ w.cell? ⟨M, 4, none⟩ = some vr ∧ w.cell? ⟨M, 5, none⟩ = some vb := (cells6 h.blk).1
/-- A mail laid into a new block. -/
theorem MailAt.new {w : World} {m : MailD} {vr vb : Value} (hr : RdS w vr m.rcpts) (hb : RdB w vb m.body) :
    MailAt (w.alloc (.cells #[.int .i64 m.id, .int .i64 m.parent, .int .i64 m.born, .string (strL m.frm), vr, vb] 25)) w.heap.size m vr vb :=
  ⟨heap_alloc_new w _, hr.below (Nat.le_refl _) ((Below.refl _ _).alloc (Nat.le_refl _) _), hb.below (Nat.le_refl _) ((Below.refl _ _).alloc (Nat.le_refl _) _)⟩
/-- What stays of a boxed mail. -/
def MailRest (w0 : World) (X : Nat) (m : MailD) (vr vb : Value) (w : World) : Prop := Below w0.heap.size w0 w ∧ MailAt w X m vr vb
abbrev MailS (w0 : World) (X : Nat) (m : MailD) (vr vb : Value) (w' : World) : Prop :=
  w'.cell? ⟨X, 0, none⟩ = some (.int .i64 m.id) ∧ w'.cell? ⟨X, 1, none⟩ = some (.int .i64 m.parent) ∧ w'.cell? ⟨X, 2, none⟩ = some (.int .i64 m.born) ∧ w'.cell? ⟨X, 3, none⟩ = some (.string (strL m.frm)) ∧ w'.cell? ⟨X, 4, none⟩ = some vr ∧ w'.cell? ⟨X, 5, none⟩ = some vb ∧ MailRest w0 X m vr vb w'
theorem MailS.go {w0 w w' : World} {X : Nat} {m : MailD} {vr vb : Value} (hb : Below w.heap.size w w') (h : MailS w0 X m vr vb w) : MailS w0 X m vr vb w' := by
  obtain ⟨_, _, _, _, _, _, h1, h2⟩ := h
  have h2' := h2.below hb
  exact ⟨h2'.cells.1, h2'.cells.2.1, h2'.cells.2.2.1, h2'.cells.2.2.2.1, h2'.cells.2.2.2.2.1, h2'.cells.2.2.2.2.2, h1.trans (hb.mono h1.size), h2'⟩
theorem rdS_nil {w : World} : RdS w (.slice none 0 0) [] := .inl ⟨_, _, rfl, by decide, rfl⟩
theorem rdB_nil {w : World} : RdB w (.slice none 0 0) [] := .inl ⟨_, _, rfl, by decide, rfl⟩
set_option maxRecDepth 100000 in
set_option maxHeartbeats 8000000 in
theorem envAns_calls (w : World) (hmax : MaxOk w) : Calls Tryd.prog 5 #[] w fun e w' => e = .returned (.bool true) ∧ Below w.heap.size w w' := by
  have hone := fun W => one_calls W
  have hdec := decode_record oneD oneD_small oneD_good []
  rw [List.append_nil] at hdec
  have henc := fun W vr vb h1 h2 h3 h4 h5 h6 => encode_good oneD vr vb W h1 h2 h3 oneD_small h4 oneD_good h5 h6
  have hdc := fun v W h1 h2 => envDecode_calls v oneD.record W h1 (by rw [record_length]; decide) h2
  rw [hdec] at hdc
  have hsm1 := fun ra ba rb bb W h1 h2 h3 h4 => envSame_calls oneD oneD ra ba rb bb W h1 h2 h3 h4
  have hsm2 := fun ra ba rb bb W h1 h2 h3 h4 => envSame_calls oneD MailD.zero ra ba rb bb W h1 h2 h3 h4
  have e1 : decide (oneD = oneD) = true := by simp
  have e2 : decide (oneD = MailD.zero) = false := by kernel_rfl
  have hgd := fun vr vb W h1 h2 h3 => envGood_calls oneD vr vb W h1 h2 (by decide) (by decide) h3
  rw [e1] at hsm1
  rw [e2] at hsm2
  rw [oneD_good] at hgd
  generalize hm : oneD = m at *
  have HL : Hid (m.record.length ≤ 100000000) := by subst hm; show _ ≤ _; rw [record_length]; decide
  clear hm
  have Hone := Lib.hid hone
  have Henc := Lib.hid henc
  have Hdc := Lib.hid hdc
  have Hsm1 := Lib.hid hsm1
  have Hsm2 := Lib.hid hsm2
  have Hgd := Lib.hid hgd
  have Hmax := Lib.hid hmax
  clear hone henc hdc hsm1 hsm2 hgd hmax hdec e1 e2
  go_enter Tryd.func5, Tryd.ntmps5
  go_wp2_with fail
  refine (Hone.out _).mono ?_; rintro e w1 ⟨vr, vb, rfl, hrL, hrT, hnL, hnT, hbL, hbT, hb1⟩
  have hbs1 := hb1.size
  have henc := Henc.out w1 vr vb hrL hrT hnT (Hmax.out.below hb1) (fun k hk => (hbL k hk).2) (fun k hk => (hbT k hk).2)
  have Henc1 := Lib.hid henc
  clear henc hrL hrT hnL hnT hbL hbT
  go_wp2_with fail
  refine (Henc1.out).mono ?_; rintro e w2 ⟨v2, rfl, ho2, hb2⟩
  have hbw2 := hb1.trans (hb2.mono hb1.size)
  have hdec := Hdc.out v2 w2 (rdB_ofOwn ho2) (Hmax.out.below hbw2)
  obtain ⟨a2, c2, hv2⟩ := own_form0 ho2
  subst hv2
  have Hdec := Lib.hid hdec
  clear hdec ho2 Henc1 Henc
  generalize m.record.length = L at *
  have hLL := HL.out
  go_wp2_with fail
  refine (Hdec.out).mono ?_; rintro e w3 ⟨vr3, vb3, rfl, hoL3, hoT3, hb3⟩
  have hoL3 : w3.ownsRow w2.heap.size 9 1 vr3 m.rcpts.length (m.rcpts.flatMap s1) := hoL3
  have hoT3 : w3.ownsRow w2.heap.size 5 1 vb3 m.body.length (m.body.map u8v) := hoT3
  have he : mailVal ((some (m, L)).elim MailD.zero Prod.fst) vr3 vb3 = mailVal m vr3 vb3 := rfl
  have hel : (Option.elim (some (m, L)) 0 Prod.snd : Nat) = L := rfl
  have hsm : Option.isSome (some (m, L)) = true := rfl
  rw [he, hel, hsm]
  have hbw3 := hbw2.trans (hb3.mono hbw2.size)
  obtain ⟨a3, c3, hv3⟩ := own_form0 hoL3
  obtain ⟨a4, c4, hv4⟩ := own_form0 hoT3
  subst hv3
  subst hv4
  have hnew := MailAt.new (m := m) (rdL_ofOwn s1_len (by decide) hoL3) (rdB_ofOwn hoT3)
  have hbw4 := hbw3.alloc hbw3.size (.cells #[.int .i64 m.id, .int .i64 m.parent, .int .i64 m.born, .string (strL m.frm), (.slice a3 m.rcpts.length c3), (.slice a4 m.body.length c4)] 25)
  have hX : w3.heap.size = w3.heap.size := rfl
  obtain ⟨w4, hw4⟩ : ∃ w4, w3.alloc (.cells #[.int .i64 m.id, .int .i64 m.parent, .int .i64 m.born, .string (strL m.frm), (.slice a3 m.rcpts.length c3), (.slice a4 m.body.length c4)] 25) = w4 := ⟨_, rfl⟩
  have hS : MailS w4 w3.heap.size m (.slice a3 m.rcpts.length c3) (.slice a4 m.body.length c4) w4.drew := by
    rw [hw4] at hnew
    exact MailS.go ((Below.refl _ _).drew) ⟨hnew.cells.1, hnew.cells.2.1, hnew.cells.2.2.1, hnew.cells.2.2.2.1, hnew.cells.2.2.2.2.1, hnew.cells.2.2.2.2.2, Below.refl _ _, hnew⟩
  have getM : Hid (∀ W, MailS w4 w3.heap.size m (.slice a3 m.rcpts.length c3) (.slice a4 m.body.length c4) W → MailAt W w3.heap.size m (.slice a3 m.rcpts.length c3) (.slice a4 m.body.length c4)) := fun W h => h.2.2.2.2.2.2.2
  have hmx4 := Hmax.out.below hbw4
  have Hmax4 : Hid (∀ W, MailS w4 w3.heap.size m (.slice a3 m.rcpts.length c3) (.slice a4 m.body.length c4) W → MaxOk W) := fun W h => by rw [hw4] at hmx4; exact hmx4.below h.2.2.2.2.2.2.1
  have Hfin : Hid (∀ W, MailS w4 w3.heap.size m (.slice a3 m.rcpts.length c3) (.slice a4 m.body.length c4) W → Below w.heap.size w W) := fun W h => by rw [hw4] at hbw4; exact hbw4.trans (h.2.2.2.2.2.2.1.mono hbw4.size)
  have HS := Lib.hid hS
  have Hw4 := Lib.hid hw4
  have hx3 : (w3.alloc (.cells #[.int .i64 m.id, .int .i64 m.parent, .int .i64 m.born, .string (strL m.frm), (.slice a3 m.rcpts.length c3), (.slice a4 m.body.length c4)] 25)).heap.size = w3.heap.size + 1 := by simp
  clear hS hw4 hmx4 hbw4 hnew hoL3 hoT3 hX hx3 he hel hsm Hdec Hdc
  go_wp2
  rw [Hw4.out]
  generalize hX : w3.heap.size = X at *
  clear hX
  refine wp_region_noPanic ?_
  refine wp_region_held_drew (S := (fun w' => w'.cell? ⟨X, 0, none⟩ = some (.int .i64 m.id) ∧ w'.cell? ⟨X, 1, none⟩ = some (.int .i64 m.parent) ∧ w'.cell? ⟨X, 2, none⟩ = some (.int .i64 m.born) ∧ w'.cell? ⟨X, 3, none⟩ = some (.string (strL m.frm)) ∧ w'.cell? ⟨X, 4, none⟩ = some (.slice a3 m.rcpts.length c3) ∧ w'.cell? ⟨X, 5, none⟩ = some (.slice a4 m.body.length c4) ∧ MailRest w4 X m (.slice a3 m.rcpts.length c3) (.slice a4 m.body.length c4) w')) (by kernel_rfl) (by first | with_reducible exact HS.out | with_reducible assumption) (fun hHeld => ?_)
  refine wpAnyH_take (i := 0) (oi := _) (v := ?_) (by simp only [List.getElem?_toArray, List.getElem?_cons_succ, List.getElem?_cons_zero]; rfl) (by kernel_rfl) (by kernel_rfl) (by kernel_rfl) (fun _ _ _ h => h) (Or.inl ⟨by rfl, ?_⟩) (by assumption) ?_
  rotate_left
  · intro w hSw; (try dsimp only at hSw); go_simp; (try with_reducible rfl)
  try simp only [Act.put, List.setIfInBounds_toArray, List.set_cons_zero, List.set_cons_succ]
  refine wpAnyH_take (i := 1) (oi := _) (v := ?_) (by simp only [List.getElem?_toArray, List.getElem?_cons_succ, List.getElem?_cons_zero]; rfl) (by kernel_rfl) (by kernel_rfl) (by kernel_rfl) (fun _ _ _ h => h) (Or.inl ⟨by rfl, ?_⟩) (by assumption) ?_
  rotate_left
  · intro w hSw; (try dsimp only at hSw); go_simp; (try with_reducible rfl)
  try simp only [Act.put, List.setIfInBounds_toArray, List.set_cons_zero, List.set_cons_succ]
  refine wpAnyH_take (i := 2) (oi := _) (v := ?_) (by simp only [List.getElem?_toArray, List.getElem?_cons_succ, List.getElem?_cons_zero]; rfl) (by kernel_rfl) (by kernel_rfl) (by kernel_rfl) (fun _ _ _ h => h) (Or.inl ⟨by rfl, ?_⟩) (by assumption) ?_
  rotate_left
  · intro w hSw; (try dsimp only at hSw); go_simp; (try with_reducible rfl)
  try simp only [Act.put, List.setIfInBounds_toArray, List.set_cons_zero, List.set_cons_succ]
  refine wpAnyH_take (i := 3) (oi := _) (v := ?_) (by simp only [List.getElem?_toArray, List.getElem?_cons_succ, List.getElem?_cons_zero]; rfl) (by kernel_rfl) (by kernel_rfl) (by kernel_rfl) (fun _ _ _ h => h) (Or.inl ⟨by rfl, ?_⟩) (by assumption) ?_
  rotate_left
  · intro w hSw; (try dsimp only at hSw); go_simp; (try with_reducible rfl)
  try simp only [Act.put, List.setIfInBounds_toArray, List.set_cons_zero, List.set_cons_succ]
  refine wpAnyH_take (i := 4) (oi := _) (v := ?_) (by simp only [List.getElem?_toArray, List.getElem?_cons_succ, List.getElem?_cons_zero]; rfl) (by kernel_rfl) (by kernel_rfl) (by kernel_rfl) (fun _ _ _ h => h) (Or.inl ⟨by rfl, ?_⟩) (by assumption) ?_
  rotate_left
  · intro w hSw; (try dsimp only at hSw); go_simp; (try with_reducible rfl)
  try simp only [Act.put, List.setIfInBounds_toArray, List.set_cons_zero, List.set_cons_succ]
  refine wpAnyH_take (i := 5) (oi := _) (v := ?_) (by simp only [List.getElem?_toArray, List.getElem?_cons_succ, List.getElem?_cons_zero]; rfl) (by kernel_rfl) (by kernel_rfl) (by kernel_rfl) (fun _ _ _ h => h) (Or.inl ⟨by rfl, ?_⟩) (by assumption) ?_
  rotate_left
  · intro w hSw; (try dsimp only at hSw); go_simp; (try with_reducible rfl)
  try simp only [Act.put, List.setIfInBounds_toArray, List.set_cons_zero, List.set_cons_succ]
  refine wpAnyH_take (i := 6) (oi := _) (v := ?_) (by simp only [List.getElem?_toArray, List.getElem?_cons_succ, List.getElem?_cons_zero]; rfl) (by kernel_rfl) (by kernel_rfl) (by kernel_rfl) (fun _ _ _ h => h) (Or.inl ⟨by rfl, ?_⟩) (by assumption) ?_
  rotate_left
  · intro w hSw; (try dsimp only at hSw); go_simp; (try with_reducible rfl)
  try simp only [Act.put, List.setIfInBounds_toArray, List.set_cons_zero, List.set_cons_succ]
  refine wpAnyH_take (i := 7) (oi := _) (v := ?_) (by simp only [List.getElem?_toArray, List.getElem?_cons_succ, List.getElem?_cons_zero]; rfl) (by kernel_rfl) (by kernel_rfl) (by kernel_rfl) (fun _ _ _ h => h) (Or.inl ⟨by rfl, ?_⟩) (by assumption) ?_
  rotate_left
  · intro w hSw; (try dsimp only at hSw); go_simp; (try with_reducible rfl)
  try simp only [Act.put, List.setIfInBounds_toArray, List.set_cons_zero, List.set_cons_succ]
  refine wpAnyH_take (i := 8) (oi := _) (v := ?_) (by simp only [List.getElem?_toArray, List.getElem?_cons_succ, List.getElem?_cons_zero]; rfl) (by kernel_rfl) (by kernel_rfl) (by kernel_rfl) (fun _ _ _ h => h) (Or.inl ⟨by rfl, ?_⟩) (by assumption) ?_
  rotate_left
  · intro w hSw; (try dsimp only at hSw); go_simp; (try with_reducible rfl)
  try simp only [Act.put, List.setIfInBounds_toArray, List.set_cons_zero, List.set_cons_succ]
  refine wpAnyH_take (i := 9) (oi := _) (v := ?_) (by simp only [List.getElem?_toArray, List.getElem?_cons_succ, List.getElem?_cons_zero]; rfl) (by kernel_rfl) (by kernel_rfl) (by kernel_rfl) (fun _ _ _ h => h) (Or.inl ⟨by rfl, ?_⟩) (by assumption) ?_
  rotate_left
  · intro w hSw; (try dsimp only at hSw); go_simp; (try with_reducible rfl)
  try simp only [Act.put, List.setIfInBounds_toArray, List.set_cons_zero, List.set_cons_succ]
  refine wpAnyH_take (i := 10) (oi := _) (v := ?_) (by simp only [List.getElem?_toArray, List.getElem?_cons_succ, List.getElem?_cons_zero]; rfl) (by kernel_rfl) (by kernel_rfl) (by kernel_rfl) (fun _ _ _ h => h) (Or.inl ⟨by rfl, ?_⟩) (by assumption) ?_
  rotate_left
  · intro w hSw; (try dsimp only at hSw); go_simp; (try with_reducible rfl)
  try simp only [Act.put, List.setIfInBounds_toArray, List.set_cons_zero, List.set_cons_succ]
  refine wpAnyH_take (i := 11) (oi := _) (v := ?_) (by simp only [List.getElem?_toArray, List.getElem?_cons_succ, List.getElem?_cons_zero]; rfl) (by kernel_rfl) (by kernel_rfl) (by kernel_rfl) (fun _ _ _ h => h) (Or.inl ⟨by rfl, ?_⟩) (by assumption) ?_
  rotate_left
  · intro w hSw; (try dsimp only at hSw); go_simp; (try with_reducible rfl)
  try simp only [Act.put, List.setIfInBounds_toArray, List.set_cons_zero, List.set_cons_succ]
  refine wpAnyH_ready (rs := [12]) (by kernel_rfl) (by simp) ?_
  refine AllReadyH.cons (o := _) (by simp only [List.getElem?_toArray, List.getElem?_cons_succ, List.getElem?_cons_zero]; rfl) (fun K hK => ?_) AllReadyH.nil
  go_simp
  (go_at_call 10; refine (Hone.out _).mono ?_; rintro e w5 ⟨vr5, vb5, rfl, hr5, ht5, -, -, -, -, hb5⟩; have hS5 := MailS.go hb5 HS.out)
  refine hK.out _ _ (by (try dsimp only); first | with_reducible exact HS.out | with_reducible assumption) (fun hHeld => ?_)
  clear hK K
  try simp only [Act.put, List.setIfInBounds_toArray, List.set_cons_zero, List.set_cons_succ]
  refine wpAnyH_ready (rs := [13]) (by kernel_rfl) (by simp) ?_
  refine AllReadyH.cons (o := _) (by simp only [List.getElem?_toArray, List.getElem?_cons_succ, List.getElem?_cons_zero]; rfl) (fun K hK => ?_) AllReadyH.nil
  go_simp
  (go_at_call 6; refine (Hsm1.out _ _ _ _ _ (getM.out _ hS5).rs (getM.out _ hS5).rb hr5 ht5).mono ?_; rintro e w6 ⟨rfl, hb6⟩; have hS6 := MailS.go hb6 hS5)
  refine hK.out _ _ (by (try dsimp only); first | with_reducible exact HS.out | with_reducible assumption) (fun hHeld => ?_)
  clear hK K
  try simp only [Act.put, List.setIfInBounds_toArray, List.set_cons_zero, List.set_cons_succ]
  refine wpAnyH_take (i := 14) (oi := _) (v := ?_) (by simp only [List.getElem?_toArray, List.getElem?_cons_succ, List.getElem?_cons_zero]; rfl) (by kernel_rfl) (by kernel_rfl) (by kernel_rfl) (fun _ _ _ h => h) (Or.inl ⟨by rfl, ?_⟩) (by assumption) ?_
  rotate_left
  · intro w hSw; (try dsimp only at hSw); go_simp; (try with_reducible rfl)
  try simp only [Act.put, List.setIfInBounds_toArray, List.set_cons_zero, List.set_cons_succ]
  refine wpAnyH_take (i := 15) (oi := _) (v := ?_) (by simp only [List.getElem?_toArray, List.getElem?_cons_succ, List.getElem?_cons_zero]; rfl) (by kernel_rfl) (by kernel_rfl) (by kernel_rfl) (fun _ _ _ h => h) (Or.inl ⟨by rfl, ?_⟩) (by assumption) ?_
  rotate_left
  · intro w hSw; (try dsimp only at hSw); go_simp; (try with_reducible rfl)
  try simp only [Act.put, List.setIfInBounds_toArray, List.set_cons_zero, List.set_cons_succ]
  refine wpAnyH_take (i := 16) (oi := _) (v := ?_) (by simp only [List.getElem?_toArray, List.getElem?_cons_succ, List.getElem?_cons_zero]; rfl) (by kernel_rfl) (by kernel_rfl) (by kernel_rfl) (fun _ _ _ h => h) (Or.inl ⟨by rfl, ?_⟩) (by assumption) ?_
  rotate_left
  · intro w hSw; (try dsimp only at hSw); go_simp; (try with_reducible rfl)
  try simp only [Act.put, List.setIfInBounds_toArray, List.set_cons_zero, List.set_cons_succ]
  refine wpAnyH_ready (rs := [17]) (by kernel_rfl) (by simp) ?_
  refine AllReadyH.cons (o := _) (by simp only [List.getElem?_toArray, List.getElem?_cons_succ, List.getElem?_cons_zero]; rfl) (fun K hK => ?_) AllReadyH.nil
  go_simp
  (go_at_call 12; refine (Hgd.out _ _ _ (getM.out _ hS6).rs (getM.out _ hS6).rb (Hmax4.out _ hS6)).mono ?_; rintro e w7 ⟨rfl, hb7⟩; have hS7 := MailS.go hb7 hS6)
  refine hK.out _ _ (by (try dsimp only); first | with_reducible exact HS.out | with_reducible assumption) (fun hHeld => ?_)
  clear hK K
  try simp only [Act.put, List.setIfInBounds_toArray, List.set_cons_zero, List.set_cons_succ]
  refine wpAnyH_take (i := 18) (oi := _) (v := ?_) (by simp only [List.getElem?_toArray, List.getElem?_cons_succ, List.getElem?_cons_zero]; rfl) (by kernel_rfl) (by kernel_rfl) (by kernel_rfl) (fun _ _ _ h => h) (Or.inl ⟨by rfl, ?_⟩) (by assumption) ?_
  rotate_left
  · intro w hSw; (try dsimp only at hSw); go_simp; (try with_reducible rfl)
  try simp only [Act.put, List.setIfInBounds_toArray, List.set_cons_zero, List.set_cons_succ]
  refine wpAnyH_take (i := 19) (oi := _) (v := ?_) (by simp only [List.getElem?_toArray, List.getElem?_cons_succ, List.getElem?_cons_zero]; rfl) (by kernel_rfl) (by kernel_rfl) (by kernel_rfl) (fun _ _ _ h => h) (Or.inl ⟨by rfl, ?_⟩) (by assumption) ?_
  rotate_left
  · intro w hSw; (try dsimp only at hSw); go_simp; (try with_reducible rfl)
  try simp only [Act.put, List.setIfInBounds_toArray, List.set_cons_zero, List.set_cons_succ]
  refine wpAnyH_take (i := 20) (oi := _) (v := ?_) (by simp only [List.getElem?_toArray, List.getElem?_cons_succ, List.getElem?_cons_zero]; rfl) (by kernel_rfl) (by kernel_rfl) (by kernel_rfl) (fun _ _ _ h => h) (Or.inl ⟨by rfl, ?_⟩) (by assumption) ?_
  rotate_left
  · intro w hSw; (try dsimp only at hSw); go_simp; (try with_reducible rfl)
  try simp only [Act.put, List.setIfInBounds_toArray, List.set_cons_zero, List.set_cons_succ]
  refine wpAnyH_take (i := 21) (oi := _) (v := ?_) (by simp only [List.getElem?_toArray, List.getElem?_cons_succ, List.getElem?_cons_zero]; rfl) (by kernel_rfl) (by kernel_rfl) (by kernel_rfl) (fun _ _ _ h => h) (Or.inl ⟨by rfl, ?_⟩) (by assumption) ?_
  rotate_left
  · intro w hSw; (try dsimp only at hSw); go_simp; (try with_reducible rfl)
  try simp only [Act.put, List.setIfInBounds_toArray, List.set_cons_zero, List.set_cons_succ]
  refine wpAnyH_ready (rs := [22]) (by kernel_rfl) (by simp) ?_
  refine AllReadyH.cons (o := _) (by simp only [List.getElem?_toArray, List.getElem?_cons_succ, List.getElem?_cons_zero]; rfl) (fun K hK => ?_) AllReadyH.nil
  go_simp
  (go_at_call 6; refine (Hsm2.out _ _ _ _ _ (getM.out _ hS7).rs (getM.out _ hS7).rb rdS_nil rdB_nil).mono ?_; rintro e w8 ⟨rfl, hb8⟩; have hS8 := MailS.go hb8 hS7; have hfin8 := Hfin.out _ hS8)
  refine hK.out _ _ (by (try dsimp only); first | with_reducible exact HS.out | with_reducible assumption) (fun hHeld => ?_)
  clear hK K
  try simp only [Act.put, List.setIfInBounds_toArray, List.set_cons_zero, List.set_cons_succ]
  refine wpAnyH_take (i := 23) (oi := _) (v := ?_) (by simp only [List.getElem?_toArray, List.getElem?_cons_succ, List.getElem?_cons_zero]; rfl) (by kernel_rfl) (by kernel_rfl) (by kernel_rfl) (fun _ _ _ h => h) (Or.inl ⟨by rfl, ?_⟩) (by assumption) ?_
  rotate_left
  · intro w hSw; (try dsimp only at hSw); go_simp; (try with_reducible rfl)
  try simp only [Act.put, List.setIfInBounds_toArray, List.set_cons_zero, List.set_cons_succ]
  refine wpAnyH_take (i := 24) (oi := _) (v := ?_) (by simp only [List.getElem?_toArray, List.getElem?_cons_succ, List.getElem?_cons_zero]; rfl) (by kernel_rfl) (by kernel_rfl) (by kernel_rfl) (fun _ _ _ h => h) (Or.inl ⟨by rfl, ?_⟩) (by assumption) ?_
  rotate_left
  · intro w hSw; (try dsimp only at hSw); go_simp; (try with_reducible rfl)
  try simp only [Act.put, List.setIfInBounds_toArray, List.set_cons_zero, List.set_cons_succ]
  refine wpAnyH_take (i := 25) (oi := _) (v := ?_) (by simp only [List.getElem?_toArray, List.getElem?_cons_succ, List.getElem?_cons_zero]; rfl) (by kernel_rfl) (by kernel_rfl) (by kernel_rfl) (fun _ _ _ h => h) (Or.inl ⟨by rfl, ?_⟩) (by assumption) ?_
  rotate_left
  · intro w hSw; (try dsimp only at hSw); go_simp; (try with_reducible rfl)
  try simp only [Act.put, List.setIfInBounds_toArray, List.set_cons_zero, List.set_cons_succ]
  refine wpAnyH_done (by kernel_rfl) ?_ _
  refine NoPanic.normal ?_
  go_wp2
  go_ret
  exact ⟨rfl, hfin8⟩
end Go.Proofs.YtjddicoigbidlaaDoor

set_option linter.unusedSimpArgs false
set_option linter.unusedVariables false
namespace Go.Proofs.YtjddicoigbidlaaDoor
open Go.RowKit
/-- What stays while the last statement is carried out: two boxed mails. -/
def SamRest (w0 : World) (M Y : Nat) (m : MailD) (vr vb : Value) (n : MailD) (vr2 vb2 : Value) (w : World) : Prop := Below w0.heap.size w0 w ∧ MailAt w M m vr vb ∧ MailAt w Y n vr2 vb2
abbrev SamS (w0 : World) (M Y : Nat) (m : MailD) (vr vb : Value) (n : MailD) (vr2 vb2 : Value) (w' : World) : Prop :=
  w'.cell? ⟨M, 0, none⟩ = some (.int .i64 m.id) ∧ w'.cell? ⟨M, 1, none⟩ = some (.int .i64 m.parent) ∧ w'.cell? ⟨M, 2, none⟩ = some (.int .i64 m.born) ∧ w'.cell? ⟨M, 3, none⟩ = some (.string (strL m.frm)) ∧ w'.cell? ⟨M, 4, none⟩ = some vr ∧ w'.cell? ⟨M, 5, none⟩ = some vb ∧
  w'.cell? ⟨Y, 0, none⟩ = some (.int .i64 n.id) ∧ w'.cell? ⟨Y, 1, none⟩ = some (.int .i64 n.parent) ∧ w'.cell? ⟨Y, 2, none⟩ = some (.int .i64 n.born) ∧ w'.cell? ⟨Y, 3, none⟩ = some (.string (strL n.frm)) ∧ w'.cell? ⟨Y, 4, none⟩ = some vr2 ∧ w'.cell? ⟨Y, 5, none⟩ = some vb2 ∧ SamRest w0 M Y m vr vb n vr2 vb2 w'
theorem SamS.of {w0 w : World} {M Y : Nat} {m : MailD} {vr vb : Value} {n : MailD} {vr2 vb2 : Value} (h : SamRest w0 M Y m vr vb n vr2 vb2 w) : SamS w0 M Y m vr vb n vr2 vb2 w := by
  obtain ⟨h1, h2, h3⟩ := id h
  exact ⟨h2.cells.1, h2.cells.2.1, h2.cells.2.2.1, h2.cells.2.2.2.1, h2.cells.2.2.2.2.1, h2.cells.2.2.2.2.2, h3.cells.1, h3.cells.2.1, h3.cells.2.2.1, h3.cells.2.2.2.1, h3.cells.2.2.2.2.1, h3.cells.2.2.2.2.2, h⟩
theorem SamS.rest {w0 w : World} {M Y : Nat} {m : MailD} {vr vb : Value} {n : MailD} {vr2 vb2 : Value} (h : SamS w0 M Y m vr vb n vr2 vb2 w) : SamRest w0 M Y m vr vb n vr2 vb2 w := h.2.2.2.2.2.2.2.2.2.2.2.2
theorem SamS.go {w0 w w' : World} {M Y : Nat} {m : MailD} {vr vb : Value} {n : MailD} {vr2 vb2 : Value} (hb : Below w.heap.size w w') (h : SamS w0 M Y m vr vb n vr2 vb2 w) : SamS w0 M Y m vr vb n vr2 vb2 w' := by
  obtain ⟨h1, h2, h3⟩ := h.rest
  exact SamS.of ⟨h1.trans (hb.mono h1.size), h2.below hb, h3.below hb⟩
set_option maxRecDepth 100000 in
set_option maxHeartbeats 16000000 in
theorem envSame_walk (m : MailD) (vr vb : Value) (n : MailD) (vr2 vb2 : Value) (w : World) (hr : RdS w vr m.rcpts) (hb : RdB w vb m.body) (hnr : NilOk vr) (hnb : NilOk vb) (hr2 : RdS w vr2 n.rcpts) (hb2 : RdB w vb2 n.body) (hmax : MaxOk w) :
    Calls Tryd.prog 3 #[mailVal m vr vb, mailVal n vr2 vb2] w fun e w' => e = .returned (.bool true) ∧ Below w.heap.size w w' := by
  obtain ⟨ar, capr, rfl, hlr, hcr⟩ := hr.form
  obtain ⟨ab, capb, rfl, hlb, hcb⟩ := hb.form
  obtain ⟨ar2, capr2, rfl, hlr2, hcr2⟩ := hr2.form
  obtain ⟨ab2, capb2, rfl, hlb2, hcb2⟩ := hb2.form
  have hm0 := MailAt.new (m := m) hr hb
  obtain ⟨W0, hW0⟩ : ∃ W0, w.alloc (.cells #[.int .i64 m.id, .int .i64 m.parent, .int .i64 m.born, .string (strL m.frm), .slice ar m.rcpts.length capr, .slice ab m.body.length capb] 25) = W0 := ⟨_, rfl⟩
  have hb0 : Below w.heap.size w W0 := by rw [← hW0]; exact (Below.refl _ _).alloc (Nat.le_refl _) _
  have hs0 : W0.heap.size = w.heap.size + 1 := by rw [← hW0]; simp
  rw [hW0] at hm0
  have hm1 := MailAt.new (m := n) (hr2.below (Nat.le_refl _) hb0) (hb2.below (Nat.le_refl _) hb0)
  obtain ⟨W, hW⟩ : ∃ W, W0.alloc (.cells #[.int .i64 n.id, .int .i64 n.parent, .int .i64 n.born, .string (strL n.frm), .slice ar2 n.rcpts.length capr2, .slice ab2 n.body.length capb2] 25) = W := ⟨_, rfl⟩
  have hb1 : Below W0.heap.size W0 W := by rw [← hW]; exact (Below.refl _ _).alloc (Nat.le_refl _) _
  rw [hW, hs0] at hm1
  have hm0 := hm0.below hb1
  have hbW := hb0.trans (hb1.mono hb0.size)
  have hmaxW := hmax.below hbW
  have hrest : SamRest W w.heap.size (w.heap.size + 1) m (.slice ar m.rcpts.length capr) (.slice ab m.body.length capb) n (.slice ar2 n.rcpts.length capr2) (.slice ab2 n.body.length capb2) W := ⟨Below.refl _ _, hm0, hm1⟩
  have hans := fun W' (h : Below W.heap.size W W') => envAns_calls W' (hmaxW.below h)
  have hl1 := fun W' h1 h2 => light_calls m (.slice ar m.rcpts.length capr) (.slice ab m.body.length capb) W' h1 h2
  have hl2 := fun W' h1 h2 => light_calls n (.slice ar2 n.rcpts.length capr2) (.slice ab2 n.body.length capb2) W' h1 h2
  obtain ⟨x0, x1, x2, x3, x4, x5⟩ := hm0.cells
  obtain ⟨lt, hlt⟩ : ∃ lt, m.light = lt := ⟨_, rfl⟩
  obtain ⟨lt2, hlt2⟩ : ∃ lt2, n.light = lt2 := ⟨_, rfl⟩
  rw [hlt] at hl1
  rw [hlt2] at hl2
  have Hl1 := Lib.hid (hl1 W hm0.rs hm0.rb)
  have Hl2 := Lib.hid hl2
  have Hlt := Lib.hid hlt
  have Hans := Lib.hid hans
  have HbW := Lib.hid hbW
  have Hrest := Lib.hid hrest
  have Hnr := Lib.hid hnr
  have Hnb := Lib.hid hnb
  clear hl1 hl2 hlt hlt2 hans hbW hrest hm0 hm1 hb0 hb1 hmaxW hmax hr hb hr2 hb2 hs0 hnr hnb
  subst hW
  subst hW0
  go_enter Tryd.func3, Tryd.ntmps3
  go_wp2_with fail
  refine (Hl1.out).mono ?_; rintro e w1 ⟨rfl, hb1⟩
  have hb1' := HbW.out.trans (hb1.mono HbW.out.size)
  cases lt
  · go_wp2_with fail
    refine (Hans.out _ hb1).mono ?_; rintro e w2 ⟨rfl, hb2⟩
    go_wp2
    go_ret
    exact ⟨rfl, hb1'.trans (hb2.mono hb1'.size)⟩
  · have hr1 := (SamS.go hb1 (SamS.of Hrest.out)).rest
    obtain ⟨y0, y1, y2, y3, y4, y5⟩ := hr1.2.2.cells
    have hcl := Hl2.out w1 hr1.2.2.rs hr1.2.2.rb
    have Hcl := Lib.hid hcl
    clear hcl hr1
    go_wp2_with fail
    refine (Hcl.out).mono ?_; rintro e w2 ⟨rfl, hb2⟩
    have hW2 := hb1.trans (hb2.mono hb1.size)
    have hb2' := hb1'.trans (hb2.mono hb1'.size)
    cases lt2
    · go_wp2_with fail
      refine (Hans.out _ hW2).mono ?_; rintro e w3 ⟨rfl, hb3⟩
      go_wp2
      go_ret
      exact ⟨rfl, hb2'.trans (hb3.mono hb2'.size)⟩
    · obtain ⟨hl1, hl2, hl3, hl4⟩ := (light_iff m).1 Hlt.out
      have hl1' : m.rcpts.length ≤ 50 := by rcases hl1 with h | h; rw [h]; decide; exact h
      have hr2 := (SamS.go hW2 (SamS.of Hrest.out)).rest
      have hS := SamS.go ((Below.refl w2.heap.size w2).drew) (SamS.of (w0 := w2) ⟨Below.refl _ _, hr2.2.1, hr2.2.2⟩)
      have HS := Lib.hid hS
      have hse := fun ra ba rb bb W h1 h2 h3 h4 => envSame_calls m n ra ba rb bb W h1 h2 h3 h4
      have hsr := fun ra ba rb bb W h1 h2 h3 h4 => refSame_calls m n ra ba rb bb W h1 h2 h3 h4
      have hsm := fun ra ba rb bb W h1 h2 h3 h4 => envSame_calls m m ra ba rb bb W h1 h2 h3 h4
      rw [show decide (m = m) = true by simp] at hsm
      have how := fun W h1 h2 => own_calls m (.slice ar m.rcpts.length capr) (.slice ab m.body.length capb) W h1 h2 Hnr.out Hnb.out (by omega) (by omega)
      obtain ⟨p, hp⟩ : ∃ p, decide (m = n) = p := ⟨_, rfl⟩
      rw [hp] at hse hsr
      have Hse := Lib.hid hse
      have Hsr := Lib.hid hsr
      have Hsm := Lib.hid hsm
      have How := Lib.hid how
      have Hans2 : Hid (∀ W', Below w2.heap.size w2 W' → Calls Tryd.prog 5 #[] W' fun e w' => e = .returned (.bool true) ∧ Below W'.heap.size W' w') := fun W' h => Hans.out W' (hW2.trans (h.mono hW2.size))
      have Hfin2 : Hid (∀ W', Below w2.heap.size w2 W' → Below w.heap.size w W') := fun W' h => hb2'.trans (h.mono hb2'.size)
      clear hr2 hS hse hsr hsm how hp hl1 hl2
      cases p
      all_goals
        go_wp2
        refine wp_region_noPanic ?_
        refine wp_region_held_drew (S := (fun w' => w'.cell? ⟨w.heap.size, 0, none⟩ = some (.int .i64 m.id) ∧ w'.cell? ⟨w.heap.size, 1, none⟩ = some (.int .i64 m.parent) ∧ w'.cell? ⟨w.heap.size, 2, none⟩ = some (.int .i64 m.born) ∧ w'.cell? ⟨w.heap.size, 3, none⟩ = some (.string (strL m.frm)) ∧ w'.cell? ⟨w.heap.size, 4, none⟩ = some (.slice ar m.rcpts.length capr) ∧ w'.cell? ⟨w.heap.size, 5, none⟩ = some (.slice ab m.body.length capb) ∧ w'.cell? ⟨w.heap.size + 1, 0, none⟩ = some (.int .i64 n.id) ∧ w'.cell? ⟨w.heap.size + 1, 1, none⟩ = some (.int .i64 n.parent) ∧ w'.cell? ⟨w.heap.size + 1, 2, none⟩ = some (.int .i64 n.born) ∧ w'.cell? ⟨w.heap.size + 1, 3, none⟩ = some (.string (strL n.frm)) ∧ w'.cell? ⟨w.heap.size + 1, 4, none⟩ = some (.slice ar2 n.rcpts.length capr2) ∧ w'.cell? ⟨w.heap.size + 1, 5, none⟩ = some (.slice ab2 n.body.length capb2) ∧ SamRest w2 w.heap.size (w.heap.size + 1) m (.slice ar m.rcpts.length capr) (.slice ab m.body.length capb) n (.slice ar2 n.rcpts.length capr2) (.slice ab2 n.body.length capb2) w')) (by kernel_rfl) (by first | with_reducible exact HS.out | with_reducible assumption) (fun hHeld => ?_)
        refine wpAnyH_ready (rs := [0]) (by kernel_rfl) (by simp) ?_
        refine AllReadyH.cons (o := _) (by simp only [List.getElem?_toArray, List.getElem?_cons_succ, List.getElem?_cons_zero]; rfl) (fun K hK => ?_) AllReadyH.nil
        go_simp
        (go_at_call 5; refine (Hans2.out _ HS.out.rest.1).mono ?_; rintro e wa ⟨rfl, hba⟩; have hSa := SamS.go hba HS.out)
        refine hK.out _ _ (by (try dsimp only); first | with_reducible exact HS.out | with_reducible assumption) (fun hHeld => ?_)
        clear hK K
        try simp only [Act.put, List.setIfInBounds_toArray, List.set_cons_zero, List.set_cons_succ]
        refine wpAnyH_take (i := 1) (oi := _) (v := ?_) (by simp only [List.getElem?_toArray, List.getElem?_cons_succ, List.getElem?_cons_zero]; rfl) (by kernel_rfl) (by kernel_rfl) (by kernel_rfl) (fun _ _ _ h => h) (Or.inl ⟨by rfl, ?_⟩) (by assumption) ?_
        rotate_left
        · intro w hSw; (try dsimp only at hSw); go_simp; (try with_reducible rfl)
        try simp only [Act.put, List.setIfInBounds_toArray, List.set_cons_zero, List.set_cons_succ]
        refine wpAnyH_take (i := 2) (oi := _) (v := ?_) (by simp only [List.getElem?_toArray, List.getElem?_cons_succ, List.getElem?_cons_zero]; rfl) (by kernel_rfl) (by kernel_rfl) (by kernel_rfl) (fun _ _ _ h => h) (Or.inl ⟨by rfl, ?_⟩) (by assumption) ?_
        rotate_left
        · intro w hSw; (try dsimp only at hSw); go_simp; (try with_reducible rfl)
        try simp only [Act.put, List.setIfInBounds_toArray, List.set_cons_zero, List.set_cons_succ]
        refine wpAnyH_take (i := 3) (oi := _) (v := ?_) (by simp only [List.getElem?_toArray, List.getElem?_cons_succ, List.getElem?_cons_zero]; rfl) (by kernel_rfl) (by kernel_rfl) (by kernel_rfl) (fun _ _ _ h => h) (Or.inl ⟨by rfl, ?_⟩) (by assumption) ?_
        rotate_left
        · intro w hSw; (try dsimp only at hSw); go_simp; (try with_reducible rfl)
        try simp only [Act.put, List.setIfInBounds_toArray, List.set_cons_zero, List.set_cons_succ]
        refine wpAnyH_take (i := 5) (oi := _) (v := ?_) (by simp only [List.getElem?_toArray, List.getElem?_cons_succ, List.getElem?_cons_zero]; rfl) (by kernel_rfl) (by kernel_rfl) (by kernel_rfl) (fun _ _ _ h => h) (Or.inl ⟨by rfl, ?_⟩) (by assumption) ?_
        rotate_left
        · intro w hSw; (try dsimp only at hSw); go_simp; (try with_reducible rfl)
        try simp only [Act.put, List.setIfInBounds_toArray, List.set_cons_zero, List.set_cons_succ]
        refine wpAnyH_take (i := 6) (oi := _) (v := ?_) (by simp only [List.getElem?_toArray, List.getElem?_cons_succ, List.getElem?_cons_zero]; rfl) (by kernel_rfl) (by kernel_rfl) (by kernel_rfl) (fun _ _ _ h => h) (Or.inl ⟨by rfl, ?_⟩) (by assumption) ?_
        rotate_left
        · intro w hSw; (try dsimp only at hSw); go_simp; (try with_reducible rfl)
        try simp only [Act.put, List.setIfInBounds_toArray, List.set_cons_zero, List.set_cons_succ]
        refine wpAnyH_ready (rs := [4]) (by kernel_rfl) (by simp) ?_
        refine AllReadyH.cons (o := _) (by simp only [List.getElem?_toArray, List.getElem?_cons_succ, List.getElem?_cons_zero]; rfl) (fun K hK => ?_) AllReadyH.nil
        go_simp
        (go_at_call 6; refine (Hse.out _ _ _ _ _ hSa.rest.2.1.rs hSa.rest.2.1.rb hSa.rest.2.2.rs hSa.rest.2.2.rb).mono ?_; rintro e wb ⟨rfl, hbb⟩; have hSb := SamS.go hbb hSa)
        refine hK.out _ _ (by (try dsimp only); first | with_reducible exact HS.out | with_reducible assumption) (fun hHeld => ?_)
        clear hK K
        try simp only [Act.put, List.setIfInBounds_toArray, List.set_cons_zero, List.set_cons_succ]
        refine wpAnyH_ready (rs := [7]) (by kernel_rfl) (by simp) ?_
        refine AllReadyH.cons (o := _) (by simp only [List.getElem?_toArray, List.getElem?_cons_succ, List.getElem?_cons_zero]; rfl) (fun K hK => ?_) AllReadyH.nil
        go_simp
        (go_at_call 7; refine (Hsr.out _ _ _ _ _ hSb.rest.2.1.rs hSb.rest.2.1.rb hSb.rest.2.2.rs hSb.rest.2.2.rb).mono ?_; rintro e wc ⟨rfl, hbc⟩; have hSc := SamS.go hbc hSb)
        refine hK.out _ _ (by (try dsimp only); first | with_reducible exact HS.out | with_reducible assumption) (fun hHeld => ?_)
        clear hK K
        try simp only [Act.put, List.setIfInBounds_toArray, List.set_cons_zero, List.set_cons_succ]
        refine wpAnyH_take (i := 8) (oi := _) (v := ?_) (by simp only [List.getElem?_toArray, List.getElem?_cons_succ, List.getElem?_cons_zero]; rfl) (by kernel_rfl) (by kernel_rfl) (by kernel_rfl) (fun _ _ _ h => h) (Or.inl ⟨by rfl, ?_⟩) (by assumption) ?_
        rotate_left
        · intro w hSw; (try dsimp only at hSw); go_simp; (try with_reducible rfl)
        try simp only [Act.put, List.setIfInBounds_toArray, List.set_cons_zero, List.set_cons_succ]
        refine wpAnyH_take (i := 9) (oi := _) (v := ?_) (by simp only [List.getElem?_toArray, List.getElem?_cons_succ, List.getElem?_cons_zero]; rfl) (by kernel_rfl) (by kernel_rfl) (by kernel_rfl) (fun _ _ _ h => h) (Or.inl ⟨by rfl, ?_⟩) (by assumption) ?_
        rotate_left
        · intro w hSw; (try dsimp only at hSw); go_simp; (try with_reducible rfl)
        try simp only [Act.put, List.setIfInBounds_toArray, List.set_cons_zero, List.set_cons_succ]
        refine wpAnyH_take (i := 10) (oi := _) (v := ?_) (by simp only [List.getElem?_toArray, List.getElem?_cons_succ, List.getElem?_cons_zero]; rfl) (by kernel_rfl) (by kernel_rfl) (by kernel_rfl) (fun _ _ _ h => h) (Or.inl ⟨by rfl, ?_⟩) (by assumption) ?_
        rotate_left
        · intro w hSw; (try dsimp only at hSw); go_simp; (try with_reducible rfl)
        try simp only [Act.put, List.setIfInBounds_toArray, List.set_cons_zero, List.set_cons_succ]
        refine wpAnyH_take (i := 11) (oi := _) (v := ?_) (by simp only [List.getElem?_toArray, List.getElem?_cons_succ, List.getElem?_cons_zero]; rfl) (by kernel_rfl) (by kernel_rfl) (by kernel_rfl) (fun _ _ _ h => h) (Or.inl ⟨by rfl, ?_⟩) (by assumption) ?_
        rotate_left
        · intro w hSw; (try dsimp only at hSw); go_simp; (try with_reducible rfl)
        try simp only [Act.put, List.setIfInBounds_toArray, List.set_cons_zero, List.set_cons_succ]
        refine wpAnyH_take (i := 12) (oi := _) (v := ?_) (by simp only [List.getElem?_toArray, List.getElem?_cons_succ, List.getElem?_cons_zero]; rfl) (by kernel_rfl) (by kernel_rfl) (by kernel_rfl) (fun _ _ _ h => h) (Or.inl ⟨by rfl, ?_⟩) (by assumption) ?_
        rotate_left
        · intro w hSw; (try dsimp only at hSw); go_simp; (try with_reducible rfl)
        try simp only [Act.put, List.setIfInBounds_toArray, List.set_cons_zero, List.set_cons_succ]
        refine wpAnyH_ready (rs := [13]) (by kernel_rfl) (by simp) ?_
        refine AllReadyH.cons (o := _) (by simp only [List.getElem?_toArray, List.getElem?_cons_succ, List.getElem?_cons_zero]; rfl) (fun K hK => ?_) AllReadyH.nil
        go_simp
        (go_at_call 8; refine (How.out _ hSc.rest.2.1.rs hSc.rest.2.1.rb).mono ?_; rintro e wd ⟨vrd, vbd, rfl, hod, hot, hbd⟩; have hSd := SamS.go hbd hSc)
        refine hK.out _ _ (by (try dsimp only); first | with_reducible exact HS.out | with_reducible assumption) (fun hHeld => ?_)
        clear hK K
        try simp only [Act.put, List.setIfInBounds_toArray, List.set_cons_zero, List.set_cons_succ]
        refine wpAnyH_ready (rs := [14]) (by kernel_rfl) (by simp) ?_
        refine AllReadyH.cons (o := _) (by simp only [List.getElem?_toArray, List.getElem?_cons_succ, List.getElem?_cons_zero]; rfl) (fun K hK => ?_) AllReadyH.nil
        go_simp
        (go_at_call 6; refine (Hsm.out _ _ _ _ _ hSd.rest.2.1.rs hSd.rest.2.1.rb (rdL_ofOwn s1_len (by decide) hod) (rdB_ofOwn hot)).mono ?_; rintro e we ⟨rfl, hbe⟩; have hSe := SamS.go hbe hSd; have hfin := Hfin2.out _ hSe.rest.1)
        refine hK.out _ _ (by (try dsimp only); first | with_reducible exact HS.out | with_reducible assumption) (fun hHeld => ?_)
        clear hK K
        try simp only [Act.put, List.setIfInBounds_toArray, List.set_cons_zero, List.set_cons_succ]
        refine wpAnyH_take (i := 15) (oi := _) (v := ?_) (by simp only [List.getElem?_toArray, List.getElem?_cons_succ, List.getElem?_cons_zero]; rfl) (by kernel_rfl) (by kernel_rfl) (by kernel_rfl) (fun _ _ _ h => h) (Or.inl ⟨by rfl, ?_⟩) (by assumption) ?_
        rotate_left
        · intro w hSw; (try dsimp only at hSw); go_simp; (try with_reducible rfl)
        try simp only [Act.put, List.setIfInBounds_toArray, List.set_cons_zero, List.set_cons_succ]
        refine wpAnyH_take (i := 16) (oi := _) (v := ?_) (by simp only [List.getElem?_toArray, List.getElem?_cons_succ, List.getElem?_cons_zero]; rfl) (by kernel_rfl) (by kernel_rfl) (by kernel_rfl) (fun _ _ _ h => h) (Or.inl ⟨by rfl, ?_⟩) (by assumption) ?_
        rotate_left
        · intro w hSw; (try dsimp only at hSw); go_simp; (try with_reducible rfl)
        try simp only [Act.put, List.setIfInBounds_toArray, List.set_cons_zero, List.set_cons_succ]
        refine wpAnyH_done (by kernel_rfl) ?_ _
        refine NoPanic.normal ?_
        go_wp2
        go_ret
        exact ⟨rfl, hfin⟩
end Go.Proofs.YtjddicoigbidlaaDoor
