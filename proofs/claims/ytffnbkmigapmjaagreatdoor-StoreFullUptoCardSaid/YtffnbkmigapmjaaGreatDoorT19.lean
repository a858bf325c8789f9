/- Printed out of the texts of wip/tpl. -/
import Derived.Test.YtffnbkmigapmjaaGreatDoorT10
import Derived.Test.YtffnbkmigapmjaaGreatDoorT17
import Derived.Test.YtffnbkmigapmjaaGreatDoorT18
set_option linter.unusedSimpArgs false
set_option linter.unusedVariables false
set_option maxRecDepth 100000
namespace Go.Proofs.YtffnbkmigapmjaaGreatDoor
open Go.RowKit Go.Maps
abbrev layCl (sb tb qb nb bb fb : Nat) : List Value := [.func (.func 166) #[] #[.pointer (some ⟨sb, 0, none⟩), .pointer (some ⟨tb, 0, none⟩)], .func (.func 167) #[] #[.pointer (some ⟨sb, 0, none⟩), .pointer (some ⟨tb, 0, none⟩)], .func (.func 168) #[] #[.pointer (some ⟨sb, 0, none⟩), .pointer (some ⟨tb, 0, none⟩), .pointer (some ⟨bb, 0, none⟩)], .func (.func 169) #[] #[.pointer (some ⟨sb, 0, none⟩), .pointer (some ⟨tb, 0, none⟩)], .func (.func 170) #[] #[.pointer (some ⟨sb, 0, none⟩), .pointer (some ⟨tb, 0, none⟩), .pointer (some ⟨qb, 0, none⟩), .pointer (some ⟨nb, 0, none⟩)], .func (.func 109) #[.pointer (some ⟨fb, 0, none⟩)] #[]]
set_option maxHeartbeats 4000000 in
theorem lay_steps {w0 : World} {d : StoD} {ρ0 : Rho} {s sb tb qb nb bb cb : Nat} {tmp : Nm} {q : UInt8} {id : Int} {aB : Option Addr} {cB : Nat} {bs : List UInt8} {cl : List Value} (ht : tmp.length ≤ maxLen) (hnv : NilOk (.slice aB bs.length cB)) (hll : d.fs.loose.length ≤ 900000) (hN : ∀ k, stoOwn s d ρ0 k → NG ≤ k) (hI : 0 ≤ id → id ≤ 999999999 → ItoaOk id.toNat w0) :
 ∀ i f, (layCl sb tb qb nb bb d.fb)[i]? = some f → StepAt s (fun w => ∃ fs ρ, LayP w0 d ρ0 s sb tb qb nb bb cb tmp (nameD q id) q id aB cB bs cl i fs ρ w) (fun w => ∃ fs ρ, LayP w0 d ρ0 s sb tb qb nb bb cb tmp (nameD q id) q id aB cB bs cl (i + 1) fs ρ w) (LayX w0 d ρ0 s sb tb tmp (nameD q id) bs) f := by
 intro i f hf
 match i, hf with
 | 0, hf =>
  cases hf
  refine ⟨_, _, _, rfl, enters_of Tryz.func166 (by kernel_rfl) rfl, ?_⟩
  rintro w ⟨fs, ρ, hP⟩
  have hok := hP.go.1
  have hll' : fs.loose.length ≤ 1000000 := by have := hP.go.2; omega
  refine (lay1_calls sb tb s tmp { d with fs := fs } ρ w hP.at_ hP.all.bx ht hok.fuse hok.n hll').mono fun e w' h => ?_
  obtain ⟨v, lv, ρ', he, hF, hst⟩ := h
  obtain ⟨c1, c2, c3, c4⟩ := lay_after (by omega) hP hF hst ⟨v, lv, rfl, rfl⟩ (unlink_go hok)
  exact ⟨_, _, he, c1, c2, c3, c4⟩
 | 1, hf =>
  cases hf
  refine ⟨_, _, _, rfl, enters_of Tryz.func167 (by kernel_rfl) rfl, ?_⟩
  rintro w ⟨fs, ρ, hP⟩
  have hok := hP.go.1
  have hll' : fs.loose.length ≤ 1000000 := by have := hP.go.2; omega
  refine (lay2_calls sb tb s tmp { d with fs := fs } ρ w hP.at_ hP.all.bx ht hok.fuse hok.n hll').mono fun e w' h => ?_
  obtain ⟨x, v, lv, ρ', he, hF, hst⟩ := h
  obtain ⟨c1, c2, c3, c4⟩ := lay_after (by omega) hP hF hst ⟨x, v, lv, rfl, rfl⟩ (create_go hok)
  exact ⟨_, _, he, c1, c2, c3, c4⟩
 | 2, hf =>
  cases hf
  refine ⟨_, _, _, rfl, enters_of Tryz.func168 (by kernel_rfl) rfl, ?_⟩
  rintro w ⟨fs, ρ, hP⟩
  have hok := hP.go.1
  have hll' : fs.loose.length ≤ 1000000 := by have := hP.go.2; omega
  refine (lay3_calls sb tb s tmp { d with fs := fs } ρ bb aB cB bs w hP.at_ hP.all.bx ht hok.fuse hok.n hll' hok.room hP.all.hb hP.all.rb hP.all.hv hnv (fun k e => (hP.all.fr k e).1)).mono fun e w' h => ?_
  obtain ⟨row, ρ', he, hF, hst⟩ := h
  obtain ⟨c1, c2, c3, c4⟩ := lay_after (by omega) hP hF hst ⟨row, rfl, rfl⟩ ((append_go hok).mono (by omega))
  exact ⟨_, _, he, c1, c2, c3, c4⟩
 | 3, hf =>
  cases hf
  refine ⟨_, _, _, rfl, enters_of Tryz.func169 (by kernel_rfl) rfl, ?_⟩
  rintro w ⟨fs, ρ, hP⟩
  have hok := hP.go.1
  have hll' : fs.loose.length ≤ 1000000 := by have := hP.go.2; omega
  refine (lay4_calls sb tb s tmp { d with fs := fs } ρ w hP.at_ hP.all.bx ht hok.fuse hok.n hll').mono fun e w' h => ?_
  obtain ⟨he, hF, hst⟩ := h
  obtain ⟨c1, c2, c3, c4⟩ := lay_after (by omega) hP hF hst ⟨rfl, rfl⟩ ((sync_go hok).mono (by omega))
  exact ⟨_, _, he, c1, c2, c3, c4⟩
 | 4, hf =>
  cases hf
  refine ⟨_, _, _, rfl, enters_of Tryz.func170 (by kernel_rfl) rfl, ?_⟩
  rintro w ⟨fs, ρ, hP⟩
  have hok := hP.go.1
  have hll' : fs.loose.length ≤ 1000000 := by have := hP.go.2; omega
  refine (lay5_calls sb tb s tmp { d with fs := fs } ρ qb nb q id w hP.at_ hP.all.bx ht hok.fuse hok.n hll' hP.all.hq hP.all.hn hP.all.rq hP.all.rn (fun a b => (hI a b).gb (GB.keeps hP.step.keeps hN))).mono fun e w' h => ?_
  obtain ⟨v, lv, ρ', he, hF, hst⟩ := h
  obtain ⟨c1, c2, c3, c4⟩ := lay_after (by omega) hP hF hst ⟨v, lv, rfl, rfl⟩ (rename_go hok)
  exact ⟨_, _, he, c1, c2, c3, c4⟩
 | 5, hf =>
  cases hf
  refine ⟨_, _, _, rfl, enters_of Tryz.func109 (by kernel_rfl) rfl, ?_⟩
  rintro w ⟨fs, ρ, hP⟩
  have hok := hP.go.1
  have hll' : fs.loose.length ≤ 1000000 := by have := hP.go.2; omega
  refine (dirSync_calls d.fb fs ρ w hP.at_.fs hok.fuse).mono fun e w' h => ?_
  obtain ⟨ms, ρ', he, hF, hst⟩ := h
  obtain ⟨c1, c2, c3, c4⟩ := lay_after (by omega) hP hF hst ⟨ms, rfl, rfl⟩ ((dirSync_go hok).mono (by omega))
  exact ⟨_, _, he, c1, c2, c3, c4⟩
 | i + 6, hf => cases hf
structure LayDone (w : World) (s : Nat) (d : StoD) (ρ : Rho) (tmp nm : Nm) (bs : List UInt8) (e : Ending) (w' : World) (er : Int) (fs : FsD) (ρ' : Rho) : Prop where
 ret : e = .returned (.int .i64 er)
 out : Outcome (layS tmp nm bs) 6 d.fs er fs
 at_ : StoAt w' s { d with fs := fs, down := d.down || decide (er = 2) } ρ'
 step : StoStep w s d ρ w' { d with fs := fs, down := d.down || decide (er = 2) } ρ'
 go : FsGo d.fs fs 6
set_option maxHeartbeats 16000000 in
theorem lay_calls (s : Nat) (d : StoD) (ρ : Rho) (q : UInt8) (id : Int) (v : Value) (bs : List UInt8) (w : World) (h : StoAt w s d ρ) (hok : FsOk d.fs) (hll : d.fs.loose.length ≤ 900000) (hN : ∀ k, stoOwn s d ρ k → NG ≤ k) (hI : 0 ≤ id → id ≤ 999999999 → ItoaOk id.toNat w)
 (hv : RdB w v bs) (hnv : NilOk v) (hfr : ∀ k, v.ownBlock = some k → ρ k = none ∧ k < w.heap.size ∧ k ≠ s) :
 Calls Tryz.prog 115 #[.pointer (some ⟨s, 0, none⟩), .int .u8 q.toNat, .int .i64 id, v] w fun e w' => ∃ er fs ρ', LayDone w s d ρ (nameD 116 id) (nameD q id) bs e w' er fs ρ' := by
 obtain ⟨aB, cB, rfl, hlB, hcB⟩ := hv.form
 obtain ⟨sb, hsb⟩ : ∃ sb, w.heap.size = sb := ⟨_, rfl⟩
 obtain ⟨W1, hW1⟩ : ∃ W1, w.alloc (.cells #[.pointer (some ⟨s, 0, none⟩)] 37) = W1 := ⟨_, rfl⟩
 obtain ⟨W2, hW2⟩ : ∃ W2, W1.alloc (.cells #[.int .u8 q.toNat] 5) = W2 := ⟨_, rfl⟩
 obtain ⟨W3, hW3⟩ : ∃ W3, W2.alloc (.cells #[.int .i64 id] 3) = W3 := ⟨_, rfl⟩
 obtain ⟨W4, hW4⟩ : ∃ W4, W3.alloc (.cells #[.slice aB bs.length cB] 22) = W4 := ⟨_, rfl⟩
 have b1 : Below w.heap.size w W1 := by rw [← hW1]; exact (Below.refl _ _).alloc (Nat.le_refl _) _
 have b2 : Below W1.heap.size W1 W2 := by rw [← hW2]; exact (Below.refl _ _).alloc (Nat.le_refl _) _
 have b3 : Below W2.heap.size W2 W3 := by rw [← hW3]; exact (Below.refl _ _).alloc (Nat.le_refl _) _
 have b4 : Below W3.heap.size W3 W4 := by rw [← hW4]; exact (Below.refl _ _).alloc (Nat.le_refl _) _
 have z1 : W1.heap.size = sb + 1 := by rw [← hW1, ← hsb]; simp
 have z2 : W2.heap.size = sb + 2 := by rw [← hW2]; simp [z1]
 have z3 : W3.heap.size = sb + 3 := by rw [← hW3]; simp [z2]
 have z4 : W4.heap.size = sb + 4 := by rw [← hW4]; simp [z3]
 have hs1 : W4.heap[sb]? = some (.cells #[.pointer (some ⟨s, 0, none⟩)] 37 (0, 0)) := (b4.block _ (by omega)).trans ((b3.block _ (by omega)).trans ((b2.block _ (by omega)).trans (by rw [← hW1]; exact heap_new_at _ hsb.symm)))
 have hs2 : W4.heap[sb + 1]? = some (.cells #[.int .u8 q.toNat] 5 (0, 0)) := (b4.block _ (by omega)).trans ((b3.block _ (by omega)).trans (by rw [← hW2]; exact heap_new_at _ z1.symm))
 have hs3 : W4.heap[sb + 1 + 1]? = some (.cells #[.int .i64 id] 3 (0, 0)) := (b4.block _ (by omega)).trans (by rw [← hW3]; exact heap_new_at _ z2.symm)
 have hs4 : W4.heap[sb + 1 + 1 + 1]? = some (.cells #[.slice aB bs.length cB] 22 (0, 0)) := by rw [← hW4]; exact heap_new_at _ z3.symm
 have b04 : Below w.heap.size w W4 := ((b1.trans (b2.mono (by omega))).trans (b3.mono (by omega))).trans (b4.mono (by omega))
 have hname := name_calls 116 id W4 (fun a b => (hI a b).below b04)
 have hq : ((116 : UInt8).toNat : Int) = 116 := rfl
 rw [hq] at hname
 have hslt : s < sb := by have := (Array.getElem?_eq_some_iff.1 h.hd).1; omega
 obtain ⟨tmp, htmp⟩ : ∃ tmp, nameD 116 id = tmp := ⟨_, rfl⟩
 have ht : tmp.length ≤ maxLen := by rw [← htmp]; have := nameD_len 116 id; unfold maxLen; omega
 rw [htmp] at hname
 have Hmain : Hid (∀ w5, Below W4.heap.size W4 w5 → ∀ W6, w5.alloc (.cells #[.string (strL tmp)] 9) = W6 → ∀ W7, W6.drew.alloc (.cells (layCl sb w5.heap.size (sb + 1) (sb + 1 + 1) (sb + 1 + 1 + 1) d.fb).toArray 171) = W7 →
  (W6.cell? ⟨sb, 0, none⟩ = some (.pointer (some ⟨s, 0, none⟩)) ∧ W6.cell? ⟨s, 0, none⟩ = some (.pointer (some ⟨d.fb, 0, none⟩))) ∧ (W7.cell? ⟨sb, 0, none⟩ = some (.pointer (some ⟨s, 0, none⟩)) ∧ W7.cell? ⟨s, 0, none⟩ = some (.pointer (some ⟨d.fb, 0, none⟩))) ∧
  Calls Tryz.prog 67 #[.pointer (some ⟨s, 0, none⟩), .slice (some ⟨W6.heap.size, 0, none⟩) 6 6] W7 fun e w9 => ∃ er fs ρ', e = .returned (.int .i64 er) ∧ LayDone w s d ρ tmp (nameD q id) bs (.returned (.int .i64 er)) w9 er fs ρ' ∧ (w9.cell? ⟨sb, 0, none⟩ = some (.pointer (some ⟨s, 0, none⟩)) ∧ w9.cell? ⟨s, 0, none⟩ = some (.pointer (some ⟨d.fb, 0, none⟩)))) := by
  intro w5 hb5 W6 hW6 W7 hW7
  have b6 : Below w5.heap.size w5 W6 := by rw [← hW6]; exact (Below.refl _ _).alloc (Nat.le_refl _) _
  have b7 : Below W6.heap.size W6 W7 := by rw [← hW7]; exact ((Below.refl _ _).drew).alloc (Nat.le_refl _) _
  have z6 : W6.heap.size = w5.heap.size + 1 := by rw [← hW6]; simp
  have z7 : W7.heap.size = W6.heap.size + 1 := by rw [← hW7]; simp
  have l5 := hb5.size
  have b46 : Below W4.heap.size W4 W6 := hb5.trans (b6.mono l5)
  have b47 : Below W4.heap.size W4 W7 := b46.trans (b7.mono (by omega))
  have b07 : Below w.heap.size w W7 := b04.trans (b47.mono b04.size)
  have htb6 : W6.heap[w5.heap.size]? = some (.cells #[.string (strL tmp)] 9 (0, 0)) := by rw [← hW6]; exact heap_new_at _ rfl
  have htb7 := (b7.block _ (by omega)).trans htb6
  have hcb7 : W7.heap[W6.heap.size]? = some (.cells (layCl sb w5.heap.size (sb + 1) (sb + 1 + 1) (sb + 1 + 1 + 1) d.fb).toArray 171 (0, 0)) := by rw [← hW7]; exact heap_new_at _ rfl
  have h7 := h.below b07
  have nn : ∀ k, sb ≤ k → ρ k = none := fun k hk => Rho.none_of h.fs.rest.lt (by omega)
  have hall : LayAll W7 ρ s sb w5.heap.size (sb + 1) (sb + 1 + 1) (sb + 1 + 1 + 1) W6.heap.size tmp q id aB cB bs (layCl sb w5.heap.size (sb + 1) (sb + 1 + 1) (sb + 1 + 1 + 1) d.fb) := by
   refine ⟨⟨(b47.block _ (by omega)).trans hs1, htb7, nn _ (Nat.le_refl _), nn _ (by omega)⟩, (b47.block _ (by omega)).trans hs2, (b47.block _ (by omega)).trans hs3, (b47.block _ (by omega)).trans hs4, ?_, hv.below (Nat.le_refl _) b07, nn _ (by omega), nn _ (by omega), nn _ (by omega), nn _ (by omega), fun k e => ⟨(hfr k e).1, Nat.lt_of_lt_of_le (hfr k e).2.1 b07.size, (hfr k e).2.2⟩, ⟨by omega, by omega, by omega, by omega, by omega, by omega⟩, by omega⟩
   refine .inr ⟨W6.heap.size, 0, 6, rfl, by simp, Nat.le_refl _, by decide, by omega, ?_⟩
   intro i x hx j u hu
   match j, hu with
   | 0, hu =>
    cases hu
    rw [Nat.zero_add, Nat.mul_one, Nat.add_zero, cell_of_row _ _ _ _ _ _ hcb7, List.getElem?_toArray]
    exact hx
   | j + 1, hu => cases hu
  have hst := lay_steps (w0 := w) (d := d) (ρ0 := ρ) (s := s) (sb := sb) (tb := w5.heap.size) (qb := sb + 1) (nb := sb + 2) (bb := sb + 3) (cb := W6.heap.size) (tmp := tmp) (q := q) (id := id) (aB := aB) (cB := cB) (bs := bs) (cl := layCl sb w5.heap.size (sb + 1) (sb + 1 + 1) (sb + 1 + 1 + 1) d.fb) ht hnv hll hN hI
  have hP0 : ∃ fs ρ', LayP w d ρ s sb w5.heap.size (sb + 1) (sb + 1 + 1) (sb + 1 + 1 + 1) W6.heap.size tmp (nameD q id) q id aB cB bs (layCl sb w5.heap.size (sb + 1) (sb + 1 + 1) (sb + 1 + 1 + 1) d.fb) 0 fs ρ' W7 := ⟨d.fs, ρ, h7, StoStep.below b07, .zero, FsGo.refl hok, hall⟩
  have hcall := steps_calls s (.slice (some ⟨W6.heap.size, 0, none⟩) 6 6) (layCl sb w5.heap.size (sb + 1) (sb + 1 + 1) (sb + 1 + 1 + 1) d.fb) W7 _ _ (fun i w' ⟨fs, ρ', hP⟩ => hP.all.hc) hst (by simp) hP0
  refine ⟨⟨cell1 ((b46.block _ (by omega)).trans hs1), (cells4 (h.below (b04.trans (b46.mono b04.size))).hd).1.1⟩, ⟨cell1 hall.bx.bs, (cells4 h7.hd).1.1⟩, hcall.mono fun e w9 hr => ?_⟩
  rcases hr with ⟨he, fs, ρ', hP⟩ | ⟨er, hne, he, fs, ρ', i, a, hA, hS, hi, hR, hL, hG, hB⟩
  ·have hdn : ({ d with fs := fs, down := d.down || decide ((0 : Int) = 2) } : StoD) = { d with fs := fs } := by cases hd : d.down <;> simp [hd]
   refine ⟨0, fs, ρ', he, ⟨rfl, .inl ⟨rfl, hP.run⟩, by rw [hdn]; exact hP.at_, by rw [hdn]; exact hP.step, hP.go⟩, cell1 hP.all.bx.bs, (cells4 hP.at_.hd).1.1⟩
  ·exact ⟨er, fs, ρ', he, ⟨rfl, .inr ⟨hne, i, a, hi, hR, hL⟩, hA, hS, hG⟩, cell1 hB.bs, (cells4 hA.hd).1.1⟩
 have Hname := Lib.hid hname
 have Hs1 := Lib.hid hs1
 have Hs3 := Lib.hid hs3
 have Hz4 := Lib.hid z4
 have Hsb := Lib.hid hsb
 have Htmp := Lib.hid htmp
 have hc3 : W4.cell? ⟨sb + 1 + 1, 0, none⟩ = some (.int .i64 id) := cell1 hs3
 have Hc3 := Lib.hid hc3
 clear hname hs1 hs2 hs3 hs4 b1 b2 b3 b4 z1 z2 z3 z4 b04 h hok hN hI hv hnv hfr ht hll hslt htmp hq hc3
 obtain ⟨W4', hW4'⟩ : ∃ x, x = W4 := ⟨_, rfl⟩
 rw [← hW4'] at Hname Hmain Hz4 Hc3
 have HW4 : Hid ((((w.alloc (.cells #[.pointer (some ⟨s, 0, none⟩)] 37)).alloc (.cells #[.int .u8 q.toNat] 5)).alloc (.cells #[.int .i64 id] 3)).alloc (.cells #[.slice aB bs.length cB] 22) = W4') := Lib.hid (by rw [hW1, hW2, hW3, hW4, hW4'])
 clear hW1 hW2 hW3 hW4 hW4' Hs1 Hs3
 obtain ⟨fb, hfb⟩ : ∃ fb, d.fb = fb := ⟨_, rfl⟩
 rw [hfb] at Hmain
 clear hfb
 go_enter Tryz.func115, Tryz.ntmps115
 go_upto_region 1 with fail
 rw [HW4.out]
 have hc3 := Hc3.out
 go_wp2_with fail
 refine (Hname.out).mono ?_; rintro e w5 ⟨rfl, hb5⟩
 obtain ⟨tm, htm⟩ : ∃ tm, strL tmp = tm := ⟨_, rfl⟩
 obtain ⟨W6, hW6⟩ : ∃ W6, w5.alloc (.cells #[.string tm] 9) = W6 := ⟨_, rfl⟩
 obtain ⟨W7, hW7⟩ : ∃ W7, W6.drew.alloc (.cells (layCl sb w5.heap.size (sb + 1) (sb + 1 + 1) (sb + 1 + 1 + 1) fb).toArray 171) = W7 := ⟨_, rfl⟩
 obtain ⟨hS6, hS7, hst⟩ := Hmain.out w5 hb5 W6 (by rw [htm]; exact hW6) W7 hW7
 obtain ⟨tb, htb⟩ : ∃ tb, w5.heap.size = tb := ⟨_, rfl⟩
 rw [htb] at hW7
 have hW7 : W6.drew.alloc (.cells #[.func (.func 166) #[] #[.pointer (some ⟨sb, 0, none⟩), .pointer (some ⟨tb, 0, none⟩)], .func (.func 167) #[] #[.pointer (some ⟨sb, 0, none⟩), .pointer (some ⟨tb, 0, none⟩)], .func (.func 168) #[] #[.pointer (some ⟨sb, 0, none⟩), .pointer (some ⟨tb, 0, none⟩), .pointer (some ⟨sb + 1 + 1 + 1, 0, none⟩)], .func (.func 169) #[] #[.pointer (some ⟨sb, 0, none⟩), .pointer (some ⟨tb, 0, none⟩)], .func (.func 170) #[] #[.pointer (some ⟨sb, 0, none⟩), .pointer (some ⟨tb, 0, none⟩), .pointer (some ⟨sb + 1, 0, none⟩), .pointer (some ⟨sb + 1 + 1, 0, none⟩)], .func (.func 109) #[.pointer (some ⟨fb, 0, none⟩)] #[]] 171) = W7 := hW7
 have HS : Hid ((fun w' => w'.cell? ⟨sb, 0, none⟩ = some (.pointer (some ⟨s, 0, none⟩)) ∧ w'.cell? ⟨s, 0, none⟩ = some (.pointer (some ⟨fb, 0, none⟩))) W6.drew) := hS6
 have Hst := Lib.hid hst
 have HW6 := Lib.hid hW6
 have HW7 := Lib.hid hW7
 have Htm := Lib.hid htm
 have Htb := Lib.hid htb
 clear hS6 hst hW6 hW7 htm htb hb5 hc3
 go_upto_region 2 with fail
 (try rw [Htm.out]); (try rw [HW6.out]); (try rw [Htb.out])
 refine wp_region_noPanic ?_
 refine wp_region_held_drew (S := (fun w' => w'.cell? ⟨sb, 0, none⟩ = some (.pointer (some ⟨s, 0, none⟩)) ∧ w'.cell? ⟨s, 0, none⟩ = some (.pointer (some ⟨fb, 0, none⟩)))) (by kernel_rfl) (by first | with_reducible exact HS.out | with_reducible exact hS7 | with_reducible exact hS9) (fun hHeld => ?_)
 refine tkP 0 ?_
 refine tkP 1 ?_
 refine tkP 2 ?_
 refine tkP 3 ?_
 refine tkP 4 ?_
 refine tkP 5 ?_
 refine tkP 6 ?_
 refine tkP 7 ?_
 refine tkP 8 ?_
 refine tkP 9 ?_
 refine tkP 10 ?_
 refine rdH 11 fun K hK => ?_
 go_simp
 (try rw [HW7.out])
 refine hK.out _ _ (by (try dsimp only); first | with_reducible exact HS.out | with_reducible exact hS7 | with_reducible exact hS9) (fun hHeld => ?_)
 clear hK K
 try simp only [Act.put, qA, qB, qC]
 refine rdH 12 fun K hK => ?_
 go_simp
 go_at_call 67; refine (Hst.out).mono ?_; rintro e w9 ⟨er, fs9, ρ9, rfl, hL, hS9⟩
 refine hK.out _ _ (by (try dsimp only); first | with_reducible exact HS.out | with_reducible exact hS7 | with_reducible exact hS9) (fun hHeld => ?_)
 clear hK K
 try simp only [Act.put, qA, qB, qC]
 refine tkP 13 ?_
 refine wpAnyH_done (by kernel_rfl) ?_ _
 refine NoPanic.normal ?_
 go_wp2
 go_ret
 exact ⟨er, fs9, ρ9, by rw [Htmp.out]; exact hL⟩
theorem idsNameD_len (n : Int) : (idsNameD n).length ≤ 14 := by
 by_cases h : 0 ≤ n ∧ n ≤ 999999999
 ·rw [idsNameD_of h, List.length_append, numD_length (by omega)]; decide
 ·rw [idsNameD_nil h]; exact Nat.zero_le _
section
variable {w w' : World} {s : Nat} {d : StoD} {ρ : Rho}
theorem StoAt.ihead {d' : StoD} (h : StoAt w s d ρ) (hk : Keeps (fun k => k = d.ib) w w') (he : d' = { d with last := d'.last, bound := d'.bound, nfile := d'.nfile }) (hd : w'.heap[d.ib]? = some (.cells #[.pointer (some ⟨d.fb, 0, none⟩), .int .i64 d'.last, .int .i64 d'.bound, .string (strL d'.nfile)] 149 (0, 0))) : StoAt w' s d' ρ ∧ StoStep w s d ρ w' d' ρ := by
 rw [he]
 exact ⟨⟨h.fs.keeps hk (fun k e => by rw [e]; exact h.ri), hk.heap h.hd (fun e => h.si e), hd, whMap_keeps h.whr hk (fun e => h.im e.symm), h.rs, h.ri, h.rm⟩, ⟨hk.mono (fun k _ e => .inr (.inr (.inl e))), fun k e => .inl e⟩⟩
end
theorem toList_strL (l : List UInt8) : (strL l).toList = l := by
 rw [ByteArray.toList_eq]; exact strL_data l
def moreB (d : StoD) : Int := min (d.last + 16) 999999999
def MoreR (d : StoD) (er : Int) (d' : StoD) : Prop :=
 ∃ (x : FreshOf d.fs) (v lv : Value), ((createD d.fs (idsNameD (moreB d)) x.x v lv).1 ≠ 0 ∧ er = (createD d.fs (idsNameD (moreB d)) x.x v lv).1 ∧ d' = { d with fs := (createD d.fs (idsNameD (moreB d)) x.x v lv).2 }) ∨
  ((createD d.fs (idsNameD (moreB d)) x.x v lv).1 = 0 ∧ ∃ f1 ms f2 e2, f1 = (createD d.fs (idsNameD (moreB d)) x.x v lv).2 ∧ (e2, f2) = dirSyncD f1 ms ∧
    ((e2 ≠ 0 ∧ er = e2 ∧ d' = { d with fs := f2, bound := moreB d, nfile := idsNameD (moreB d) }) ∨
     (e2 = 0 ∧ d.nfile = [] ∧ er = 0 ∧ d' = { d with fs := f2, bound := moreB d, nfile := idsNameD (moreB d) }) ∨
     (e2 = 0 ∧ d.nfile ≠ [] ∧ ∃ v2 lv2, er = (unlinkD f2 d.nfile v2 lv2).1 ∧ d' = { d with fs := (unlinkD f2 d.nfile v2 lv2).2, bound := moreB d, nfile := idsNameD (moreB d) })))
structure MoreDone (w : World) (s : Nat) (d : StoD) (ρ : Rho) (e : Ending) (w' : World) (er : Int) (d' : StoD) (ρ' : Rho) : Prop where
 ret : e = .returned (.int .i64 er)
 out : MoreR d er d'
 at_ : StoAt w' s d' ρ'
 step : StoStep w s d ρ w' d' ρ'
 go : FsGo d.fs d'.fs 2
set_option maxHeartbeats 8000000 in
theorem more_calls (s : Nat) (d : StoD) (ρ : Rho) (w : World) (h : StoAt w s d ρ) (hok : FsOk d.fs) (hll : d.fs.loose.length ≤ 900000) (hg : GOk w) (hN : ∀ k, stoOwn s d ρ k → NG ≤ k) (hl : 0 ≤ d.last ∧ d.last ≤ 999999999) (hnf : d.nfile.length ≤ 1000) :
 Calls Tryz.prog 164 #[.pointer (some ⟨d.ib, 0, none⟩)] w fun e w' => ∃ er d' ρ', MoreDone w s d ρ e w' er d' ρ' := by
 obtain ⟨mb, hmo⟩ : ∃ mb, moreB d = mb := ⟨_, rfl⟩
 have hmb : 0 ≤ mb ∧ mb ≤ 999999999 := by rw [← hmo]; unfold moreB; omega
 have hmin : ∀ w, (Builtin.min_ #[3, 3] 3 #[.int .i64 (d.last + 16), .int .i64 999999999]).run Tryz.prog w = .ok (.int .i64 mb) w := by
  intro w
  have h1 : (if (999999999 : Int) < d.last + 16 then (999999999 : Int) else d.last + 16) = mb := by rw [← hmo]; unfold moreB; split <;> omega
  simp [Builtin.min_, Builtin.min2, go_sem, h1]
 have Hmo := Lib.hid hmo
 clear hmo
 obtain ⟨fs, fb, ib, mp, la, bo, nf, wh, dn⟩ := d
 dsimp only at hmin hok hll hl hnf
 obtain ⟨⟨c0, c1, c2, c3⟩, hfz⟩ := cells4 h.ids
 dsimp only at c0 c1 c2 c3 hfz ⊢
 have f2 := hfz 2
 have f3 := hfz 3
 have hwr : IntKind.i64.wrap (la + 16) = la + 16 := IntWalk.i64_in _ (by omega)
 have hwr' : wrap64 (la + 16) = la + 16 := IntWalk.wrap64_in _ (by omega)
 have hname := idsName_calls mb w (hg.int _)
 obtain ⟨nm, hnm⟩ : ∃ nm, idsNameD mb = nm := ⟨_, rfl⟩
 have hnl : nm.length ≤ 1000 := by rw [← hnm]; have := idsNameD_len mb; omega
 rw [hnm] at hname
 have Hname := Lib.hid hname
 have hcr : ∀ w1, Below w.heap.size w w1 → Calls Tryz.prog 15 #[.pointer (some ⟨fb, 0, none⟩), .string (strL nm)] w1 fun e w' => ∃ (x : FreshOf fs) (v lv : Value) (ρ' : Rho), FsDone fb ρ w1 e w' (createD fs nm x.x v lv).1 (createD fs nm x.x v lv).2 ρ' :=
  fun w1 hb => (create_calls' fb fs ρ nm w1 (h.fs.below hb) (by unfold maxLen; omega) hok.fuse (by omega)).mono fun e w' ⟨x, v, lv, ρ', a, b, c⟩ => ⟨x, v, lv, ρ', FsDone.mk a b c⟩
 have Hcr := Lib.hid hcr
 have H := Lib.hid h
 obtain ⟨ol, hol⟩ : ∃ ol, strL nf = ol := ⟨_, rfl⟩
 have Hol := Lib.hid hol
 rw [hol] at c3
 have Hnm := Lib.hid hnm
 have Hhy := Lib.hid (And.intro hok (And.intro hll (And.intro hnl hnf)))
 obtain ⟨tn, htn⟩ : ∃ tn, strL nm = tn := ⟨_, rfl⟩
 rw [htn] at Hname Hcr
 have Htn := Lib.hid htn
 have HN := Lib.hid hN
 clear hname hcr hg hN hl hfz hol hnm hok hll hnf hnl htn h hmb
 go_enter Tryz.func164, Tryz.ntmps164
 go_wp2_with fail
 refine (Hname.out).mono ?_; rintro e w1 ⟨rfl, hb1⟩
 have hst1 := StoStep.below (s := s) (d := ⟨fs, fb, ib, mp, la, bo, nf, wh, dn⟩) (ρ := ρ) hb1
 have HB1 := Lib.hid hb1
 have HSt1 := Lib.hid hst1
 have c0 := (cells4 (H.out.below hb1).ids).1.1
 dsimp only at c0
 clear hb1 c1 c2 c3 f2 f3 hst1
 go_wp2_with fail
 refine (Hcr.out w1 HB1.out).mono ?_; rintro e w2 ⟨x, v, lv, ρ2, rfl, hF2, hst2⟩
 obtain ⟨hS1, hS2⟩ := (H.out.below HB1.out).fsStep hF2 hst2
 obtain ⟨er, her⟩ : ∃ er, (createD fs nm x.x v lv).1 = er := ⟨_, rfl⟩
 obtain ⟨fs2, hfs2⟩ : ∃ fs2, (createD fs nm x.x v lv).2 = fs2 := ⟨_, rfl⟩
 have hg2 : FsGo fs fs2 1 := by rw [← hfs2]; exact create_go Hhy.out.1
 rw [hfs2] at hS1 hS2
 rw [her]
 dsimp only at hS1 hS2
 have hS2 := HSt1.out.trans hS2
 have HS := Lib.hid (And.intro hS1 (And.intro hS2 (And.intro hg2 (And.intro her hfs2))))
 obtain ⟨⟨c0', c1', c2, c3⟩, hfz'⟩ := cells4 hS1.ids
 have f2 := hfz' 2
 have f3 := hfz' 3
 dsimp only at c0' c1' c2 c3 f2 f3
 rw [Hol.out] at c3
 clear hfz' hg2 hS1 hS2 her hfs2 hF2 hst2 c0 c1' c0'
 by_cases h0 : er = 0
 ·have Hfin : Hid (∀ w3, (w2.setCell ⟨ib, 3, none⟩ (.string tn)).setCell ⟨ib, 2, none⟩ (.int .i64 mb) = w3 → StoAt w3 s ⟨fs2, fb, ib, mp, la, mb, nm, wh, dn⟩ ρ2 ∧ StoStep w s ⟨fs, fb, ib, mp, la, bo, nf, wh, dn⟩ ρ w3 ⟨fs2, fb, ib, mp, la, mb, nm, wh, dn⟩ ρ2) := Lib.hid (by
   intro w3 hw3
   obtain ⟨p1, p2, p3, p4, p5⟩ := HS.out
   have hk : Keeps (fun k => k = ib) w2 w3 := by rw [← hw3]; exact (Keeps.setCell (F := fun k => k = ib) _ ⟨ib, 3, none⟩ _ rfl).trans (Keeps.setCell (F := fun k => k = ib) _ ⟨ib, 2, none⟩ _ rfl)
   have e1 := Go.heap_setCell_same w2 ib 3 _ _ (.string tn) p1.ids
   have e2 := Go.heap_setCell_same _ ib 2 _ _ (.int .i64 mb) e1
   rw [hw3, ← Htn.out] at e2
   obtain ⟨q1, q2⟩ := p1.ihead (d' := ⟨fs2, fb, ib, mp, la, mb, nm, wh, dn⟩) hk rfl e2
   exact ⟨q1, p2.trans q2⟩)
  subst h0
  obtain ⟨w3, hw3⟩ : ∃ w3, (w2.setCell ⟨ib, 3, none⟩ (.string tn)).setCell ⟨ib, 2, none⟩ (.int .i64 mb) = w3 := ⟨_, rfl⟩
  obtain ⟨hA3, hT3⟩ := Hfin.out w3 hw3
  have c0 := (cells4 hA3.ids).1.1
  dsimp only at c0
  have hds := (dirSync_calls fb fs2 ρ2 w3 hA3.fs HS.out.2.2.1.1.fuse).mono fun e w' ⟨ms, ρ', a, b, c⟩ => (⟨ms, ρ', FsDone.mk a b c⟩ : ∃ ms ρ', FsDone fb ρ2 w3 e w' (dirSyncD fs2 ms).1 (dirSyncD fs2 ms).2 ρ')
  have Hds := Lib.hid hds
  have H3 := Lib.hid (And.intro hA3 hT3)
  clear hds hA3 hT3 Hfin
  go_wp2_with fail
  refine (Hds.out).mono ?_; rintro e w4 ⟨ms, ρ4, rfl, hF4, hst4⟩
  obtain ⟨hS4, hT4⟩ := H3.out.1.fsStep hF4 hst4
  obtain ⟨e2, he2⟩ : ∃ e2, (dirSyncD fs2 ms).1 = e2 := ⟨_, rfl⟩
  obtain ⟨fs4, hfs4⟩ : ∃ fs4, (dirSyncD fs2 ms).2 = fs4 := ⟨_, rfl⟩
  have hg4 : FsGo fs fs4 1 := by rw [← hfs4]; exact HS.out.2.2.1.trans (dirSync_go HS.out.2.2.1.1)
  rw [hfs4] at hS4 hT4
  rw [he2]
  dsimp only at hS4 hT4
  have hT4 := H3.out.2.trans hT4
  have HP := Lib.hid (show (e2, fs4) = dirSyncD fs2 ms by rw [← he2, ← hfs4])
  have H4 := Lib.hid (And.intro hS4 (And.intro hT4 hg4))
  have c0 := (cells4 hS4.ids).1.1
  dsimp only at c0
  clear hS4 hT4 hg4 he2 hfs4 hF4 hst4
  have hfin : ∀ er d', ((e2 ≠ 0 ∧ er = e2 ∧ d' = (⟨fs4, fb, ib, mp, la, mb, nm, wh, dn⟩ : StoD)) ∨ (e2 = 0 ∧ nf = [] ∧ er = 0 ∧ d' = (⟨fs4, fb, ib, mp, la, mb, nm, wh, dn⟩ : StoD)) ∨ (e2 = 0 ∧ nf ≠ [] ∧ ∃ v2 lv2, er = (unlinkD fs4 nf v2 lv2).1 ∧ d' = (⟨(unlinkD fs4 nf v2 lv2).2, fb, ib, mp, la, mb, nm, wh, dn⟩ : StoD))) → MoreR ⟨fs, fb, ib, mp, la, bo, nf, wh, dn⟩ er d' := by
   intro er d' hc
   obtain ⟨p1, p2, p3, p4, p5⟩ := HS.out
   refine ⟨x, v, lv, .inr ?_⟩
   rw [Hmo.out, Hnm.out]
   exact ⟨p4, fs2, ms, fs4, e2, p5.symm, HP.out, hc⟩
  have HF := Lib.hid hfin
  clear hfin
  by_cases h2 : e2 = 0
  ·subst h2
   by_cases hnf : nf = []
   ·have hE : (ol.toList == ([] : List UInt8)) = true := by rw [← Hol.out, hnf, toList_strL]; rfl
    have hE' : ol.toList.isEmpty = true := by rw [← Hol.out, hnf, toList_strL]; rfl
    have Hnf := Lib.hid hnf
    clear hnf
    go_wp2
    go_ret
    exact ⟨0, _, ρ4, rfl, HF.out _ _ (.inr (.inl ⟨by first | exact rfl | exact trivial, Hnf.out, rfl, rfl⟩)), H4.out.1, H4.out.2.1, H4.out.2.2.mono (by omega)⟩
   ·have hol2 : ol.toList ≠ [] := fun e => hnf (by
     have h5 : ol = strL [] := (Lib.bytes_beq_iff _ _).1 (by rw [e, toList_strL]; rfl)
     exact strL_inj (Hol.out.trans h5))
    have hE : (ol.toList == ([] : List UInt8)) = false := by simpa using hol2
    have hE' : ol.toList.isEmpty = false := by simpa using hol2
    have Hnf := Lib.hid hnf
    have hul := (unlink_calls fb fs4 ρ4 nf w4 H4.out.1.fs (by have := Hhy.out.2.2.2; unfold maxLen; omega) H4.out.2.2.1.fuse H4.out.2.2.1.n (by have := H4.out.2.2.2; have := Hhy.out.2.1; omega)).mono fun e w' ⟨v, lv, ρ', a, b, c⟩ => (⟨v, lv, ρ', FsDone.mk a b c⟩ : ∃ v lv ρ', FsDone fb ρ4 w4 e w' (unlinkD fs4 nf v lv).1 (unlinkD fs4 nf v lv).2 ρ')
    rw [Hol.out] at hul
    have Hul := Lib.hid hul
    clear hul hnf hol2
    go_wp2_with fail
    refine (Hul.out).mono ?_; rintro e w5 ⟨v2, lv2, ρ5, rfl, hF5, hst5⟩
    obtain ⟨hS5, hT5⟩ := H4.out.1.fsStep hF5 hst5
    have H5 := Lib.hid (And.intro hS5 (H4.out.2.1.trans hT5))
    have HG := Lib.hid (H4.out.2.2.trans (unlink_go (n := nf) (v := v2) (lv := lv2) H4.out.2.2.1))
    obtain ⟨eu, heu⟩ : ∃ eu, (unlinkD fs4 nf v2 lv2).1 = eu := ⟨_, rfl⟩
    have Heu := Lib.hid heu
    rw [heu]
    clear hS5 hT5 hF5 hst5 heu
    go_wp2
    go_ret
    exact ⟨eu, _, ρ5, rfl, HF.out _ _ (.inr (.inr ⟨by first | exact rfl | exact trivial, Hnf.out, v2, lv2, Heu.out.symm, rfl⟩)), H5.out.1, H5.out.2, HG.out⟩
  ·have h2' : (e2 != 0) = true := by simpa using h2
   have Hn2 := Lib.hid h2
   clear h2
   go_wp2
   go_ret
   exact ⟨e2, _, ρ4, rfl, HF.out _ _ (.inl ⟨Hn2.out, rfl, rfl⟩), H4.out.1, H4.out.2.1, H4.out.2.2.mono (by omega)⟩
 ·have h0' : (er != 0) = true := by simpa using h0
  go_wp2
  go_ret
  obtain ⟨p1, p2, p3, p4, p5⟩ := HS.out
  refine ⟨er, ⟨fs2, fb, ib, mp, la, bo, nf, wh, dn⟩, ρ2, rfl, ⟨x, v, lv, .inl ?_⟩, p1, p2, p3.mono (by omega)⟩
  rw [Hmo.out, Hnm.out, p4, p5]
  exact ⟨h0, rfl, rfl⟩
theorem MoreR.same {d d' : StoD} {er : Int} (h : MoreR d er d') : d'.fb = d.fb ∧ d'.ib = d.ib ∧ d'.mb = d.mb ∧ d'.last = d.last ∧ d'.whr = d.whr ∧ d'.down = d.down := by
 obtain ⟨x, v, lv, ⟨_, _, rfl⟩ | ⟨_, f1, ms, f2, e2, _, _, ⟨_, _, rfl⟩ | ⟨_, _, _, rfl⟩ | ⟨_, _, v2, lv2, _, rfl⟩⟩⟩ := h <;> exact ⟨rfl, rfl, rfl, rfl, rfl, rfl⟩
def NextR (d : StoD) (er id : Int) (d' : StoD) : Prop :=
 (d.fs.down = true ∧ er = 2 ∧ id = 0 ∧ d' = d) ∨ (d.fs.down = false ∧ d.last = 999999999 ∧ er = 3 ∧ id = 0 ∧ d' = d) ∨
 (d.fs.down = false ∧ d.last ≠ 999999999 ∧ d.bound ≤ d.last ∧ ∃ e1 d1, MoreR d e1 d1 ∧ ((e1 ≠ 0 ∧ er = e1 ∧ id = 0 ∧ d' = d1) ∨ (e1 = 0 ∧ er = 0 ∧ id = d.last + 1 ∧ d' = { d1 with last := d.last + 1 }))) ∨
 (d.fs.down = false ∧ d.last ≠ 999999999 ∧ d.last < d.bound ∧ er = 0 ∧ id = d.last + 1 ∧ d' = { d with last := d.last + 1 })
structure NextDone (w : World) (s : Nat) (d : StoD) (ρ : Rho) (e : Ending) (w' : World) (er id : Int) (d' : StoD) (ρ' : Rho) : Prop where
 ret : e = .returned (.tuple #[.int .i64 id, .int .i64 er])
 out : NextR d er id d'
 at_ : StoAt w' s d' ρ'
 step : StoStep w s d ρ w' d' ρ'
 go : FsGo d.fs d'.fs 2
set_option maxHeartbeats 8000000 in
theorem next_calls (s : Nat) (d : StoD) (ρ : Rho) (w : World) (h : StoAt w s d ρ) (hok : FsOk d.fs) (hll : d.fs.loose.length ≤ 900000) (hg : GOk w) (hN : ∀ k, stoOwn s d ρ k → NG ≤ k) (hl : 0 ≤ d.last ∧ d.last ≤ 999999999) (hnf : d.nfile.length ≤ 1000) :
 Calls Tryz.prog 113 #[.pointer (some ⟨d.ib, 0, none⟩)] w fun e w' => ∃ er id d' ρ', NextDone w s d ρ e w' er id d' ρ' := by
 have hdown := down_calls d.fb d.fs ρ w h.fs
 have hb0 : Below w.heap.size w w.drew := (Below.refl _ _).drew
 have hmore := more_calls s d ρ w.drew (h.below hb0) hok hll (hg.below hb0) hN hl hnf
 obtain ⟨⟨c0, c1, c2, c3⟩, hfz⟩ := cells4 h.ids
 have f1 := hfz 1
 have H := Lib.hid h
 have Hk := Lib.hid hok
 clear hfz c3 hg hN hnf hll h hok hb0
 obtain ⟨fs, fb, ib, mp, la, bo, nf, wh, dn⟩ := d
 dsimp only at c0 c1 c2 f1 hdown hmore hl ⊢
 cases hdn : fs.down with
 | true =>
  rw [hdn] at hdown
  have Hd := Lib.hid hdown
  have Hdn := Lib.hid hdn
  clear hdown hmore hdn
  go_enter Tryz.func113, Tryz.ntmps113
  go_wp2_with fail
  refine (Hd.out).mono ?_; rintro e w1 ⟨rfl, hw1⟩; have hw1 := hw1.symm; subst hw1
  go_wp2
  go_ret2
  exact ⟨2, 0, _, ρ, rfl, .inl ⟨Hdn.out, rfl, rfl, rfl⟩, H.out, StoStep.refl _ _ _ _, (FsGo.refl Hk.out).mono (by omega)⟩
 | false =>
  rw [hdn] at hdown
  have Hd := Lib.hid hdown
  have Hdn := Lib.hid hdn
  clear hdown hdn
  by_cases hmx : la = 999999999
  ·have Hmx := Lib.hid hmx
   have hE : (la == 999999999) = true := by simpa using hmx
   clear hmore hmx
   go_enter Tryz.func113, Tryz.ntmps113
   go_wp2_with fail
   refine (Hd.out).mono ?_; rintro e w1 ⟨rfl, hw1⟩; have hw1 := hw1.symm; subst hw1
   go_wp2
   go_ret2
   exact ⟨3, 0, _, ρ, rfl, .inr (.inl ⟨Hdn.out, Hmx.out, rfl, rfl, rfl⟩), H.out, StoStep.refl _ _ _ _, (FsGo.refl Hk.out).mono (by omega)⟩
  ·have hE : (la == 999999999) = false := by simpa using hmx
   have hw1 : IntKind.i64.wrap (la + 1) = la + 1 := IntWalk.i64_in _ (by omega)
   have hw2 : wrap64 (la + 1) = la + 1 := IntWalk.wrap64_in _ (by omega)
   have Hmx := Lib.hid hmx
   clear hmx
   have hset : ∀ (w2 : World) (d2 : StoD) (ρ2 : Rho), StoAt w2 s d2 ρ2 → StoStep w s ⟨fs, fb, ib, mp, la, bo, nf, wh, dn⟩ ρ w2 d2 ρ2 → d2.ib = ib → d2.last = la → StoAt (w2.setCell ⟨ib, 1, none⟩ (.int .i64 (la + 1))) s { d2 with last := la + 1 } ρ2 ∧ StoStep w s ⟨fs, fb, ib, mp, la, bo, nf, wh, dn⟩ ρ (w2.setCell ⟨ib, 1, none⟩ (.int .i64 (la + 1))) { d2 with last := la + 1 } ρ2 := by
    intro w2 d2 ρ2 hA hT hi hl
    have hk : Keeps (fun k => k = d2.ib) w2 (w2.setCell ⟨ib, 1, none⟩ (.int .i64 (la + 1))) := Keeps.setCell _ _ _ hi.symm
    have e1 := Go.heap_setCell_same w2 d2.ib 1 _ _ (.int .i64 (la + 1)) hA.ids
    rw [hi] at e1
    obtain ⟨q1, q2⟩ := hA.ihead (d' := { d2 with last := la + 1 }) hk rfl (by rw [hi]; exact e1)
    exact ⟨q1, hT.trans q2⟩
   have Hset := Lib.hid hset
   clear hset
   by_cases hlb : la < bo
   ·have Hlb := Lib.hid hlb
    have hge : ¬ (bo ≤ la) := by omega
    clear hmore
    go_enter Tryz.func113, Tryz.ntmps113
    go_wp2_with fail
    refine (Hd.out).mono ?_; rintro e w1 ⟨rfl, hw1⟩; have hw1 := hw1.symm; subst hw1
    go_wp2
    go_region
    all_goals
     go_wp2
     go_ret2
     obtain ⟨q1, q2⟩ := Hset.out w.drew _ ρ (H.out.below (Below.refl _ _).drew) (StoStep.below (Below.refl _ _).drew) rfl rfl
     exact ⟨0, la + 1, _, ρ, rfl, .inr (.inr (.inr ⟨Hdn.out, Hmx.out, Hlb.out, rfl, rfl, rfl⟩)), q1, q2, (FsGo.refl Hk.out).mono (by omega)⟩
   ·have hge : bo ≤ la := by omega
    have Hge := Lib.hid hge
    have Hm := Lib.hid hmore
    clear hmore
    go_enter Tryz.func113, Tryz.ntmps113
    go_wp2_with fail
    refine (Hd.out).mono ?_; rintro e w1 ⟨rfl, hw1⟩; have hw1 := hw1.symm; subst hw1
    go_wp2
    go_region
    all_goals
     go_wp2_with fail
     refine (Hm.out).mono ?_; rintro e w2 ⟨er, d2, ρ2, rfl, hout, hA, hT, hgo⟩
     have hT' := (StoStep.below (s := s) (d := (⟨fs, fb, ib, mp, la, bo, nf, wh, dn⟩ : StoD)) (ρ := ρ) (Below.refl w.heap.size w).drew).trans hT
     obtain ⟨e1, e2, e3, e4, e5, e6⟩ := hout.same
     dsimp only at e1 e2 e3 e4 e5 e6
     have hids := hA.ids
     rw [e2, e4] at hids
     have c1' := (cells4 hids).1.2.1
     have f1' := (cells4 hids).2 1
     have HA := Lib.hid (And.intro hA (And.intro hT' (And.intro hgo (And.intro hout (And.intro e2 e4)))))
     clear hA hT hT' hgo hout e1 e2 e3 e4 e5 e6 hids c0 c1 c2 f1
     by_cases h0 : er = 0
     ·subst h0
      go_wp2
      go_ret2
      obtain ⟨p1, p2, p3, p4, p5, p6⟩ := HA.out
      obtain ⟨q1, q2⟩ := Hset.out w2 d2 ρ2 p1 p2 p5 p6
      exact ⟨0, la + 1, _, ρ2, rfl, .inr (.inr (.inl ⟨Hdn.out, Hmx.out, Hge.out, 0, d2, p4, .inr ⟨by first | exact rfl | exact trivial, rfl, rfl, rfl⟩⟩)), q1, q2, p3⟩
     ·have h0' : (er != 0) = true := by simpa using h0
      have Hn0 := Lib.hid h0
      clear h0
      go_wp2
      go_ret2
      obtain ⟨p1, p2, p3, p4, p5, p6⟩ := HA.out
      exact ⟨er, 0, d2, ρ2, rfl, .inr (.inr (.inl ⟨Hdn.out, Hmx.out, Hge.out, er, d2, p4, .inl ⟨Hn0.out, rfl, rfl, rfl⟩⟩)), p1, p2, p3⟩
def StoOf (s : Nm) (q : UInt8) (n : Int) : Prop := allQ.contains q = true ∧ 1 ≤ n ∧ n ≤ 999999999 ∧ s = nameD q n
theorem nameD_of {q : UInt8} {n : Int} (h0 : allQ.contains q = true) (h1 : 1 ≤ n) (h2 : n ≤ 999999999) : nameD q n = [q, 45] ++ numD n.toNat := by unfold nameD; rw [if_pos ⟨h0, h1, h2⟩]
theorem StoOf.inj {s : Nm} {q r : UInt8} {n m : Int} (h : StoOf s q n) (g : StoOf s r m) : q = r ∧ n = m := by
 obtain ⟨a0, a1, a2, a3⟩ := h
 obtain ⟨b0, b1, b2, b3⟩ := g
 rw [a3, nameD_of a0 a1 a2, nameD_of b0 b1 b2] at b3
 injection b3 with c1 c2
 injection c2 with _ c2
 have := numD_inj c2
 exact ⟨c1, by omega⟩
theorem StoOf.len {s : Nm} {q : UInt8} {n : Int} (h : StoOf s q n) : s.length = 11 := by
 obtain ⟨a0, a1, a2, a3⟩ := h
 rw [a3, nameD_of a0 a1 a2, List.length_append, numD_length (by omega)]; rfl
def Wh.at (l : Wh) (n : Int) : UInt8 := (l.look n).getD 0
set_option maxHeartbeats 4000000 in
theorem where_calls (s : Nat) (d : StoD) (ρ : Rho) (w : World) (h : StoAt w s d ρ) (id : Int) (hid : -9223372036854775808 ≤ id ∧ id ≤ 9223372036854775807) :
 Calls Tryz.prog 18 #[.pointer (some ⟨s, 0, none⟩), .int .i64 id] w fun e w' => e = .returned (.int .u8 ((d.whr.at id).toNat : Int)) ∧ Below w.heap.size w w' := by
 have hb : Below w.heap.size w w.drew := (Below.refl _ _).drew
 have c2 := (cells4 h.hd).1.2.2.1
 have hl := wh_look h.whr id hid
 have hl2 := wh_look (h.below hb).whr id hid
 have Hq : Hid (d.whr.at id = (d.whr.look id).getD 0) := Lib.hid rfl
 obtain ⟨qv, hqv⟩ : ∃ qv : Nat, ((d.whr.look id).getD 0).toNat = qv := ⟨_, rfl⟩
 rw [hqv] at hl hl2
 have Hqv := Lib.hid hqv
 have Hb := Lib.hid hb
 clear h hid hqv hb
 go_enter Tryz.func18, Tryz.ntmps18
 go_wp2
 try go_region
 all_goals try go_wp2
 all_goals
  go_ret
  rw [Hq.out, Hqv.out]
  first | exact ⟨rfl, Hb.out⟩ | exact ⟨rfl, Below.refl _ _⟩
set_option maxHeartbeats 4000000 in
theorem sready_calls (s : Nat) (d : StoD) (ρ : Rho) (w : World) (h : StoAt w s d ρ) :
 Calls Tryz.prog 64 #[.pointer (some ⟨s, 0, none⟩)] w fun e w' => e = .returned (.int .i64 (if d.down then 2 else 0)) ∧ Below w.heap.size w w' := by
 have c3 := (cells4 h.hd).1.2.2.2
 cases hd : d.down with
 | true =>
  rw [hd] at c3
  clear h hd
  go_enter Tryz.func64, Tryz.ntmps64
  go_wp2
  go_ret
  exact ⟨rfl, Below.refl _ _⟩
 | false =>
  rw [hd] at c3
  clear h hd
  go_enter Tryz.func64, Tryz.ntmps64
  go_wp2
  go_ret
  exact ⟨rfl, Below.refl _ _⟩
end Go.Proofs.YtffnbkmigapmjaaGreatDoor
