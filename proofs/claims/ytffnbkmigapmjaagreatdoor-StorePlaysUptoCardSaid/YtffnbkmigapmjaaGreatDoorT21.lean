/-
  The walk of store.lay: a file, anew.
  The walk of store.lay (printed by gen_stolay3.py).
-/
import Derived.Test.YtffnbkmigapmjaaGreatDoorT11
import Derived.Test.YtffnbkmigapmjaaGreatDoorT20
set_option linter.unusedSimpArgs false
set_option linter.unusedVariables false
set_option maxRecDepth 100000
namespace Go.Proofs.YtffnbkmigapmjaaGreatDoor
open Go.RowKit Go.Maps
inductive Run (S : Nat → FsD → Int → FsD → Prop) (d0 : FsD) : Nat → FsD → Prop
 | zero : Run S d0 0 d0
 | step {i : Nat} {a b : FsD} : Run S d0 i a → S i a 0 b → Run S d0 (i + 1) b
def Outcome (S : Nat → FsD → Int → FsD → Prop) (n : Nat) (d0 : FsD) (er : Int) (fs : FsD) : Prop := (er = 0 ∧ Run S d0 n fs) ∨ (er ≠ 0 ∧ ∃ i a, i < n ∧ Run S d0 i a ∧ S i a er fs)
def layS (tmp nm : Nm) (bs : List UInt8) (i : Nat) (fs : FsD) (er : Int) (fs' : FsD) : Prop :=
 match i with
 | 0 => ∃ v lv, er = (if (unlinkD fs tmp v lv).1 = 4 then 0 else (unlinkD fs tmp v lv).1) ∧ fs' = (unlinkD fs tmp v lv).2
 | 1 => ∃ (x : FreshOf fs) (v lv : Value), er = (createD fs tmp x.x v lv).1 ∧ fs' = (createD fs tmp x.x v lv).2
 | 2 => ∃ row, er = (appendD fs tmp bs row).1 ∧ fs' = (appendD fs tmp bs row).2
 | 3 => er = (syncD fs tmp).1 ∧ fs' = (syncD fs tmp).2
 | 4 => ∃ v lv, er = (renameD fs tmp nm v lv).1 ∧ fs' = (renameD fs tmp nm v lv).2
 | _ => ∃ ms, er = (dirSyncD fs ms).1 ∧ fs' = (dirSyncD fs ms).2
structure LayAll (w : World) (ρ : Rho) (s sb tb qb nb bb cb : Nat) (tmp : Nm) (q : UInt8) (id : Int) (aB : Option Addr) (cB : Nat) (bs : List UInt8) (cl : List Value) : Prop where
 bx : LayBox w ρ sb tb s tmp
 hq : w.heap[qb]? = some (.cells #[.int .u8 q.toNat] 5 (0, 0))
 hn : w.heap[nb]? = some (.cells #[.int .i64 id] 3 (0, 0))
 hb : w.heap[bb]? = some (.cells #[.slice aB bs.length cB] 22 (0, 0))
 hc : RdL 1 v1 w (.slice (some ⟨cb, 0, none⟩) 6 6) cl
 hv : RdB w (.slice aB bs.length cB) bs
 rq : ρ qb = none
 rn : ρ nb = none
 rb : ρ bb = none
 rc : ρ cb = none
 fr : ∀ k, (Value.slice aB bs.length cB).ownBlock = some k → ρ k = none ∧ k < w.heap.size ∧ k ≠ s
 ne : sb ≠ s ∧ tb ≠ s ∧ qb ≠ s ∧ nb ≠ s ∧ bb ≠ s ∧ cb ≠ s
 lt : cb < w.heap.size
section
variable {w w' : World} {ρ ρ' : Rho} {s sb tb qb nb bb cb : Nat} {tmp : Nm} {q : UInt8} {id : Int} {aB : Option Addr} {cB : Nat} {bs : List UInt8} {cl : List Value}
theorem LayAll.go {F : Nat → Prop} (h : LayAll w ρ s sb tb qb nb bb cb tmp q id aB cB bs cl) (hk : Keeps F w w') (hF : ∀ k, F k → ρ.has k ∨ k = s) (hr : ∀ k, ρ k = none → k < w.heap.size → ρ' k = none) : LayAll w' ρ' s sb tb qb nb bb cb tmp q id aB cB bs cl := by
 have hn : ∀ {k : Nat}, ρ k = none → k ≠ s → ¬ F k := fun h1 h2 h3 => (hF _ h3).elim (Rho.not_has h1) h2
 obtain ⟨n1, n2, n3, n4, n5, n6⟩ := h.ne
 have lt : ∀ {b : Nat} {o : Obj}, w.heap[b]? = some o → b < w.heap.size := fun h => (Array.getElem?_eq_some_iff.1 h).1
 exact ⟨⟨hk.heap h.bx.bs (hn h.bx.rs n1), hk.heap h.bx.bt (hn h.bx.rt n2), hr _ h.bx.rs (lt h.bx.bs), hr _ h.bx.rt (lt h.bx.bt)⟩, hk.heap h.hq (hn h.rq n3), hk.heap h.hn (hn h.rn n4), hk.heap h.hb (hn h.rb n5),
  h.hc.keeps hk (fun b o l c e => by injection e with e; injection e with e; injection e with e; rw [← e]; exact hn h.rc n6), h.hv.keeps hk (fun k e => hn (h.fr k e).1 (h.fr k e).2.2),
  hr _ h.rq (lt h.hq), hr _ h.rn (lt h.hn), hr _ h.rb (lt h.hb), hr _ h.rc h.lt, fun k e => ⟨hr _ (h.fr k e).1 (h.fr k e).2.1, Nat.lt_of_lt_of_le (h.fr k e).2.1 hk.size, (h.fr k e).2.2⟩, h.ne, Nat.lt_of_lt_of_le h.lt hk.size⟩
end
structure LayP (w0 : World) (d : StoD) (ρ0 : Rho) (s sb tb qb nb bb cb : Nat) (tmp nm : Nm) (q : UInt8) (id : Int) (aB : Option Addr) (cB : Nat) (bs : List UInt8) (cl : List Value) (i : Nat) (fs : FsD) (ρ : Rho) (w : World) : Prop where
 at_ : StoAt w s { d with fs := fs } ρ
 step : StoStep w0 s d ρ0 w { d with fs := fs } ρ
 run : Run (layS tmp nm bs) d.fs i fs
 go : FsGo d.fs fs i
 all : LayAll w ρ s sb tb qb nb bb cb tmp q id aB cB bs cl
def LayX (w0 : World) (d : StoD) (ρ0 : Rho) (s sb tb : Nat) (tmp nm : Nm) (bs : List UInt8) (er : Int) (w : World) : Prop :=
 ∃ fs ρ i a, StoAt w s { d with fs := fs, down := d.down || decide (er = 2) } ρ ∧ StoStep w0 s d ρ0 w { d with fs := fs, down := d.down || decide (er = 2) } ρ ∧ i < 6 ∧ Run (layS tmp nm bs) d.fs i a ∧ layS tmp nm bs i a er fs ∧ FsGo d.fs fs 6 ∧ LayBox w ρ sb tb s tmp
section
variable {w0 : World} {d : StoD} {ρ0 : Rho} {s sb tb qb nb bb cb : Nat} {tmp nm : Nm} {q : UInt8} {id : Int} {aB : Option Addr} {cB : Nat} {bs : List UInt8} {cl : List Value}
theorem lay_after {i : Nat} (hi : i < 6) {fs fs' : FsD} {ρ ρ' : Rho} {w w' : World} {er : Int} (h : LayP w0 d ρ0 s sb tb qb nb bb cb tmp nm q id aB cB bs cl i fs ρ w) (hF : FsAt w' d.fb fs' ρ') (hst : FsStep w ρ w' ρ') (hS : layS tmp nm bs i fs er fs') (hgo : FsGo fs fs' 1) :
 w'.cell? ⟨s, 3, none⟩ = some (.bool d.down) ∧ w'.frozen? ⟨s, 3, none⟩ = false ∧
 (er = 0 → ∃ fs2 ρ2, LayP w0 d ρ0 s sb tb qb nb bb cb tmp nm q id aB cB bs cl (i + 1) fs2 ρ2 (w'.setCell ⟨s, 3, none⟩ (.bool d.down))) ∧ (er ≠ 0 → LayX w0 d ρ0 s sb tb tmp nm bs er (w'.setCell ⟨s, 3, none⟩ (.bool (d.down || decide (er = 2))))) := by
 obtain ⟨h1, h2⟩ := h.at_.fsStep (d := { d with fs := fs }) hF hst
 have hc := cells4 h1.hd
 have hk : ∀ b : Bool, Keeps (fun k => k = s) w' (w'.setCell ⟨s, 3, none⟩ (.bool b)) := fun b => Keeps.setCell _ _ _ rfl
 refine ⟨hc.1.2.2.2, hc.2 3, fun e0 => ?_, fun e0 => ?_⟩
 ·subst e0
  obtain ⟨h3, h4⟩ := h1.head (d' := { d with fs := fs' }) (hk d.down) rfl (heap_setCell_same _ _ 3 _ _ _ h1.hd)
  refine ⟨fs', ρ', h3, (h.step.trans h2).trans h4, .step h.run hS, h.go.trans hgo, ?_⟩
  have a1 := h.all.go (ρ' := ρ') hst.keeps (fun k e => .inl e) (fun k e l => Rho.none_go e l hst)
  exact a1.go (ρ' := ρ') (hk d.down) (fun k e => .inr e) (fun k e _ => e)
 ·obtain ⟨h3, h4⟩ := h1.head (d' := { d with fs := fs', down := d.down || decide (er = 2) }) (hk (d.down || decide (er = 2))) rfl (heap_setCell_same _ _ 3 _ _ _ h1.hd)
  have a1 := h.all.go (ρ' := ρ') hst.keeps (fun k e => .inl e) (fun k e l => Rho.none_go e l hst)
  have a2 := a1.go (ρ' := ρ') (hk (d.down || decide (er = 2))) (fun k e => .inr e) (fun k e _ => e)
  exact ⟨fs', ρ', i, fs, h3, (h.step.trans h2).trans h4, hi, h.run, hS, (h.go.trans hgo).mono (by omega), a2.bx⟩
end
end Go.Proofs.YtffnbkmigapmjaaGreatDoor
set_option maxRecDepth 100000
namespace Go.Proofs.YtffnbkmigapmjaaGreatDoor
open Go.RowKit Go.Maps
abbrev layCl (sb tb qb nb bb fb : Nat) : List Value := [.func (.func 166) #[] #[.pointer (some ⟨sb, 0, none⟩), .pointer (some ⟨tb, 0, none⟩)], .func (.func 167) #[] #[.pointer (some ⟨sb, 0, none⟩), .pointer (some ⟨tb, 0, none⟩)], .func (.func 168) #[] #[.pointer (some ⟨sb, 0, none⟩), .pointer (some ⟨tb, 0, none⟩), .pointer (some ⟨bb, 0, none⟩)], .func (.func 169) #[] #[.pointer (some ⟨sb, 0, none⟩), .pointer (some ⟨tb, 0, none⟩)], .func (.func 170) #[] #[.pointer (some ⟨sb, 0, none⟩), .pointer (some ⟨tb, 0, none⟩), .pointer (some ⟨qb, 0, none⟩), .pointer (some ⟨nb, 0, none⟩)], .func (.func 109) #[.pointer (some ⟨fb, 0, none⟩)] #[]]
set_option maxHeartbeats 4000000 in
theorem lay_steps {w0 : World} {d : StoD} {ρ0 : Rho} {s sb tb qb nb bb cb : Nat} {tmp : Nm} {q : UInt8} {id : Int} {aB : Option Addr} {cB : Nat} {bs : List UInt8} {cl : List Value} (ht : tmp.length ≤ maxLen) (hnv : NilOk (.slice aB bs.length cB)) (hll : d.fs.loose.length ≤ 900000) (hN : ∀ k, stoOwn s d ρ0 k → NG ≤ k) (hI : 0 ≤ id → id ≤ 999999999 → ItoaOk id.toNat w0) :
 ∀ i f, (layCl sb tb qb nb bb d.fb)[i]? = some f → StepAt s (fun w => ∃ fs ρ, LayP w0 d ρ0 s sb tb qb nb bb cb tmp (nameD q id) q id aB cB bs cl i fs ρ w) (fun w => ∃ fs ρ, LayP w0 d ρ0 s sb tb qb nb bb cb tmp (nameD q id) q id aB cB bs cl (i + 1) fs ρ w) (LayX w0 d ρ0 s sb tb tmp (nameD q id) bs) f := by
 intro i f hf
 match i, hf with
 | 0, hf =>
  cases hf
  refine ⟨_, _, _, rfl, enters_of Tryz.func166 (by kernel_rfl) rfl, ?_⟩
  rintro w ⟨fs, ρ, hP⟩
  have hok := hP.go.1
  have hll' : fs.loose.length ≤ 1000000 := by have := hP.go.2; omega
  refine (lay1_calls sb tb s tmp { d with fs := fs } ρ w hP.at_ hP.all.bx ht hok.fuse hok.n hll').mono fun e w' h => ?_
  obtain ⟨v, lv, ρ', he, hF, hst⟩ := h
  obtain ⟨c1, c2, c3, c4⟩ := lay_after (by omega) hP hF hst ⟨v, lv, rfl, rfl⟩ (unlink_go hok)
  exact ⟨_, _, he, c1, c2, c3, c4⟩
 | 1, hf =>
  cases hf
  refine ⟨_, _, _, rfl, enters_of Tryz.func167 (by kernel_rfl) rfl, ?_⟩
  rintro w ⟨fs, ρ, hP⟩
  have hok := hP.go.1
  have hll' : fs.loose.length ≤ 1000000 := by have := hP.go.2; omega
  refine (lay2_calls sb tb s tmp { d with fs := fs } ρ w hP.at_ hP.all.bx ht hok.fuse hok.n hll').mono fun e w' h => ?_
  obtain ⟨x, v, lv, ρ', he, hF, hst⟩ := h
  obtain ⟨c1, c2, c3, c4⟩ := lay_after (by omega) hP hF hst ⟨x, v, lv, rfl, rfl⟩ (create_go hok)
  exact ⟨_, _, he, c1, c2, c3, c4⟩
 | 2, hf =>
  cases hf
  refine ⟨_, _, _, rfl, enters_of Tryz.func168 (by kernel_rfl) rfl, ?_⟩
  rintro w ⟨fs, ρ, hP⟩
  have hok := hP.go.1
  have hll' : fs.loose.length ≤ 1000000 := by have := hP.go.2; omega
  refine (lay3_calls sb tb s tmp { d with fs := fs } ρ bb aB cB bs w hP.at_ hP.all.bx ht hok.fuse hok.n hll' hok.room hP.all.hb hP.all.rb hP.all.hv hnv (fun k e => (hP.all.fr k e).1)).mono fun e w' h => ?_
  obtain ⟨row, ρ', he, hF, hst⟩ := h
  obtain ⟨c1, c2, c3, c4⟩ := lay_after (by omega) hP hF hst ⟨row, rfl, rfl⟩ ((append_go hok).mono (by omega))
  exact ⟨_, _, he, c1, c2, c3, c4⟩
 | 3, hf =>
  cases hf
  refine ⟨_, _, _, rfl, enters_of Tryz.func169 (by kernel_rfl) rfl, ?_⟩
  rintro w ⟨fs, ρ, hP⟩
  have hok := hP.go.1
  have hll' : fs.loose.length ≤ 1000000 := by have := hP.go.2; omega
  refine (lay4_calls sb tb s tmp { d with fs := fs } ρ w hP.at_ hP.all.bx ht hok.fuse hok.n hll').mono fun e w' h => ?_
  obtain ⟨he, hF, hst⟩ := h
  obtain ⟨c1, c2, c3, c4⟩ := lay_after (by omega) hP hF hst ⟨rfl, rfl⟩ ((sync_go hok).mono (by omega))
  exact ⟨_, _, he, c1, c2, c3, c4⟩
 | 4, hf =>
  cases hf
  refine ⟨_, _, _, rfl, enters_of Tryz.func170 (by kernel_rfl) rfl, ?_⟩
  rintro w ⟨fs, ρ, hP⟩
  have hok := hP.go.1
  have hll' : fs.loose.length ≤ 1000000 := by have := hP.go.2; omega
  refine (lay5_calls sb tb s tmp { d with fs := fs } ρ qb nb q id w hP.at_ hP.all.bx ht hok.fuse hok.n hll' hP.all.hq hP.all.hn hP.all.rq hP.all.rn (fun a b => (hI a b).gb (GB.keeps hP.step.keeps hN))).mono fun e w' h => ?_
  obtain ⟨v, lv, ρ', he, hF, hst⟩ := h
  obtain ⟨c1, c2, c3, c4⟩ := lay_after (by omega) hP hF hst ⟨v, lv, rfl, rfl⟩ (rename_go hok)
  exact ⟨_, _, he, c1, c2, c3, c4⟩
 | 5, hf =>
  cases hf
  refine ⟨_, _, _, rfl, enters_of Tryz.func109 (by kernel_rfl) rfl, ?_⟩
  rintro w ⟨fs, ρ, hP⟩
  have hok := hP.go.1
  have hll' : fs.loose.length ≤ 1000000 := by have := hP.go.2; omega
  refine (dirSync_calls d.fb fs ρ w hP.at_.fs hok.fuse).mono fun e w' h => ?_
  obtain ⟨ms, ρ', he, hF, hst⟩ := h
  obtain ⟨c1, c2, c3, c4⟩ := lay_after (by omega) hP hF hst ⟨ms, rfl, rfl⟩ ((dirSync_go hok).mono (by omega))
  exact ⟨_, _, he, c1, c2, c3, c4⟩
 | i + 6, hf => cases hf
structure LayDone (w : World) (s : Nat) (d : StoD) (ρ : Rho) (tmp nm : Nm) (bs : List UInt8) (e : Ending) (w' : World) (er : Int) (fs : FsD) (ρ' : Rho) : Prop where
 ret : e = .returned (.int .i64 er)
 out : Outcome (layS tmp nm bs) 6 d.fs er fs
 at_ : StoAt w' s { d with fs := fs, down := d.down || decide (er = 2) } ρ'
 step : StoStep w s d ρ w' { d with fs := fs, down := d.down || decide (er = 2) } ρ'
 go : FsGo d.fs fs 6
set_option maxHeartbeats 16000000 in
theorem lay_calls (s : Nat) (d : StoD) (ρ : Rho) (q : UInt8) (id : Int) (v : Value) (bs : List UInt8) (w : World) (h : StoAt w s d ρ) (hok : FsOk d.fs) (hll : d.fs.loose.length ≤ 900000) (hN : ∀ k, stoOwn s d ρ k → NG ≤ k) (hI : 0 ≤ id → id ≤ 999999999 → ItoaOk id.toNat w)
 (hv : RdB w v bs) (hnv : NilOk v) (hfr : ∀ k, v.ownBlock = some k → ρ k = none ∧ k < w.heap.size ∧ k ≠ s) :
 Calls Tryz.prog 115 #[.pointer (some ⟨s, 0, none⟩), .int .u8 q.toNat, .int .i64 id, v] w fun e w' => ∃ er fs ρ', LayDone w s d ρ (nameD 116 id) (nameD q id) bs e w' er fs ρ' := by
 obtain ⟨aB, cB, rfl, hlB, hcB⟩ := hv.form
 obtain ⟨sb, hsb⟩ : ∃ sb, w.heap.size = sb := ⟨_, rfl⟩
 obtain ⟨W1, hW1⟩ : ∃ W1, w.alloc (.cells #[.pointer (some ⟨s, 0, none⟩)] 37) = W1 := ⟨_, rfl⟩
 obtain ⟨W2, hW2⟩ : ∃ W2, W1.alloc (.cells #[.int .u8 q.toNat] 5) = W2 := ⟨_, rfl⟩
 obtain ⟨W3, hW3⟩ : ∃ W3, W2.alloc (.cells #[.int .i64 id] 3) = W3 := ⟨_, rfl⟩
 obtain ⟨W4, hW4⟩ : ∃ W4, W3.alloc (.cells #[.slice aB bs.length cB] 22) = W4 := ⟨_, rfl⟩
 have b1 : Below w.heap.size w W1 := by rw [← hW1]; exact (Below.refl _ _).alloc (Nat.le_refl _) _
 have b2 : Below W1.heap.size W1 W2 := by rw [← hW2]; exact (Below.refl _ _).alloc (Nat.le_refl _) _
 have b3 : Below W2.heap.size W2 W3 := by rw [← hW3]; exact (Below.refl _ _).alloc (Nat.le_refl _) _
 have b4 : Below W3.heap.size W3 W4 := by rw [← hW4]; exact (Below.refl _ _).alloc (Nat.le_refl _) _
 have z1 : W1.heap.size = sb + 1 := by rw [← hW1, ← hsb]; simp
 have z2 : W2.heap.size = sb + 2 := by rw [← hW2]; simp [z1]
 have z3 : W3.heap.size = sb + 3 := by rw [← hW3]; simp [z2]
 have z4 : W4.heap.size = sb + 4 := by rw [← hW4]; simp [z3]
 have hs1 : W4.heap[sb]? = some (.cells #[.pointer (some ⟨s, 0, none⟩)] 37 (0, 0)) := (b4.block _ (by omega)).trans ((b3.block _ (by omega)).trans ((b2.block _ (by omega)).trans (by rw [← hW1]; exact heap_new_at _ hsb.symm)))
 have hs2 : W4.heap[sb + 1]? = some (.cells #[.int .u8 q.toNat] 5 (0, 0)) := (b4.block _ (by omega)).trans ((b3.block _ (by omega)).trans (by rw [← hW2]; exact heap_new_at _ z1.symm))
 have hs3 : W4.heap[sb + 1 + 1]? = some (.cells #[.int .i64 id] 3 (0, 0)) := (b4.block _ (by omega)).trans (by rw [← hW3]; exact heap_new_at _ z2.symm)
 have hs4 : W4.heap[sb + 1 + 1 + 1]? = some (.cells #[.slice aB bs.length cB] 22 (0, 0)) := by rw [← hW4]; exact heap_new_at _ z3.symm
 have b04 : Below w.heap.size w W4 := ((b1.trans (b2.mono (by omega))).trans (b3.mono (by omega))).trans (b4.mono (by omega))
 have hname := name_calls 116 id W4 (fun a b => (hI a b).below b04)
 have hq : ((116 : UInt8).toNat : Int) = 116 := rfl
 rw [hq] at hname
 have hslt : s < sb := by have := (Array.getElem?_eq_some_iff.1 h.hd).1; omega
 obtain ⟨tmp, htmp⟩ : ∃ tmp, nameD 116 id = tmp := ⟨_, rfl⟩
 have ht : tmp.length ≤ maxLen := by rw [← htmp]; have := nameD_len 116 id; unfold maxLen; omega
 rw [htmp] at hname
 have Hmain : Hid (∀ w5, Below W4.heap.size W4 w5 → ∀ W6, w5.alloc (.cells #[.string (strL tmp)] 9) = W6 → ∀ W7, W6.drew.alloc (.cells (layCl sb w5.heap.size (sb + 1) (sb + 1 + 1) (sb + 1 + 1 + 1) d.fb).toArray 171) = W7 →
  (W6.cell? ⟨sb, 0, none⟩ = some (.pointer (some ⟨s, 0, none⟩)) ∧ W6.cell? ⟨s, 0, none⟩ = some (.pointer (some ⟨d.fb, 0, none⟩))) ∧ (W7.cell? ⟨sb, 0, none⟩ = some (.pointer (some ⟨s, 0, none⟩)) ∧ W7.cell? ⟨s, 0, none⟩ = some (.pointer (some ⟨d.fb, 0, none⟩))) ∧
  Calls Tryz.prog 67 #[.pointer (some ⟨s, 0, none⟩), .slice (some ⟨W6.heap.size, 0, none⟩) 6 6] W7 fun e w9 => ∃ er fs ρ', e = .returned (.int .i64 er) ∧ LayDone w s d ρ tmp (nameD q id) bs (.returned (.int .i64 er)) w9 er fs ρ' ∧ (w9.cell? ⟨sb, 0, none⟩ = some (.pointer (some ⟨s, 0, none⟩)) ∧ w9.cell? ⟨s, 0, none⟩ = some (.pointer (some ⟨d.fb, 0, none⟩)))) := by
  intro w5 hb5 W6 hW6 W7 hW7
  have b6 : Below w5.heap.size w5 W6 := by rw [← hW6]; exact (Below.refl _ _).alloc (Nat.le_refl _) _
  have b7 : Below W6.heap.size W6 W7 := by rw [← hW7]; exact ((Below.refl _ _).drew).alloc (Nat.le_refl _) _
  have z6 : W6.heap.size = w5.heap.size + 1 := by rw [← hW6]; simp
  have z7 : W7.heap.size = W6.heap.size + 1 := by rw [← hW7]; simp
  have l5 := hb5.size
  have b46 : Below W4.heap.size W4 W6 := hb5.trans (b6.mono l5)
  have b47 : Below W4.heap.size W4 W7 := b46.trans (b7.mono (by omega))
  have b07 : Below w.heap.size w W7 := b04.trans (b47.mono b04.size)
  have htb6 : W6.heap[w5.heap.size]? = some (.cells #[.string (strL tmp)] 9 (0, 0)) := by rw [← hW6]; exact heap_new_at _ rfl
  have htb7 := (b7.block _ (by omega)).trans htb6
  have hcb7 : W7.heap[W6.heap.size]? = some (.cells (layCl sb w5.heap.size (sb + 1) (sb + 1 + 1) (sb + 1 + 1 + 1) d.fb).toArray 171 (0, 0)) := by rw [← hW7]; exact heap_new_at _ rfl
  have h7 := h.below b07
  have nn : ∀ k, sb ≤ k → ρ k = none := fun k hk => Rho.none_of h.fs.rest.lt (by omega)
  have hall : LayAll W7 ρ s sb w5.heap.size (sb + 1) (sb + 1 + 1) (sb + 1 + 1 + 1) W6.heap.size tmp q id aB cB bs (layCl sb w5.heap.size (sb + 1) (sb + 1 + 1) (sb + 1 + 1 + 1) d.fb) := by
   refine ⟨⟨(b47.block _ (by omega)).trans hs1, htb7, nn _ (Nat.le_refl _), nn _ (by omega)⟩, (b47.block _ (by omega)).trans hs2, (b47.block _ (by omega)).trans hs3, (b47.block _ (by omega)).trans hs4, ?_, hv.below (Nat.le_refl _) b07, nn _ (by omega), nn _ (by omega), nn _ (by omega), nn _ (by omega), fun k e => ⟨(hfr k e).1, Nat.lt_of_lt_of_le (hfr k e).2.1 b07.size, (hfr k e).2.2⟩, ⟨by omega, by omega, by omega, by omega, by omega, by omega⟩, by omega⟩
   refine .inr ⟨W6.heap.size, 0, 6, rfl, by simp, Nat.le_refl _, by decide, by omega, ?_⟩
   intro i x hx j u hu
   match j, hu with
   | 0, hu =>
    cases hu
    rw [Nat.zero_add, Nat.mul_one, Nat.add_zero, cell_of_row _ _ _ _ _ _ hcb7, List.getElem?_toArray]
    exact hx
   | j + 1, hu => cases hu
  have hst := lay_steps (w0 := w) (d := d) (ρ0 := ρ) (s := s) (sb := sb) (tb := w5.heap.size) (qb := sb + 1) (nb := sb + 2) (bb := sb + 3) (cb := W6.heap.size) (tmp := tmp) (q := q) (id := id) (aB := aB) (cB := cB) (bs := bs) (cl := layCl sb w5.heap.size (sb + 1) (sb + 1 + 1) (sb + 1 + 1 + 1) d.fb) ht hnv hll hN hI
  have hP0 : ∃ fs ρ', LayP w d ρ s sb w5.heap.size (sb + 1) (sb + 1 + 1) (sb + 1 + 1 + 1) W6.heap.size tmp (nameD q id) q id aB cB bs (layCl sb w5.heap.size (sb + 1) (sb + 1 + 1) (sb + 1 + 1 + 1) d.fb) 0 fs ρ' W7 := ⟨d.fs, ρ, h7, StoStep.below b07, .zero, FsGo.refl hok, hall⟩
  have hcall := steps_calls s (.slice (some ⟨W6.heap.size, 0, none⟩) 6 6) (layCl sb w5.heap.size (sb + 1) (sb + 1 + 1) (sb + 1 + 1 + 1) d.fb) W7 _ _ (fun i w' ⟨fs, ρ', hP⟩ => hP.all.hc) hst (by simp) hP0
  refine ⟨⟨cell1 ((b46.block _ (by omega)).trans hs1), (cells4 (h.below (b04.trans (b46.mono b04.size))).hd).1.1⟩, ⟨cell1 hall.bx.bs, (cells4 h7.hd).1.1⟩, hcall.mono fun e w9 hr => ?_⟩
  rcases hr with ⟨he, fs, ρ', hP⟩ | ⟨er, hne, he, fs, ρ', i, a, hA, hS, hi, hR, hL, hG, hB⟩
  ·have hdn : ({ d with fs := fs, down := d.down || decide ((0 : Int) = 2) } : StoD) = { d with fs := fs } := by cases hd : d.down <;> simp [hd]
   refine ⟨0, fs, ρ', he, ⟨rfl, .inl ⟨rfl, hP.run⟩, by rw [hdn]; exact hP.at_, by rw [hdn]; exact hP.step, hP.go⟩, cell1 hP.all.bx.bs, (cells4 hP.at_.hd).1.1⟩
  ·exact ⟨er, fs, ρ', he, ⟨rfl, .inr ⟨hne, i, a, hi, hR, hL⟩, hA, hS, hG⟩, cell1 hB.bs, (cells4 hA.hd).1.1⟩
 have Hname := Lib.hid hname
 have Hs1 := Lib.hid hs1
 have Hs3 := Lib.hid hs3
 have Hz4 := Lib.hid z4
 have Hsb := Lib.hid hsb
 have Htmp := Lib.hid htmp
 have hc3 : W4.cell? ⟨sb + 1 + 1, 0, none⟩ = some (.int .i64 id) := cell1 hs3
 have Hc3 := Lib.hid hc3
 clear hname hs1 hs2 hs3 hs4 b1 b2 b3 b4 z1 z2 z3 z4 b04 h hok hN hI hv hnv hfr ht hll hslt htmp hq hc3
 obtain ⟨W4', hW4'⟩ : ∃ x, x = W4 := ⟨_, rfl⟩
 rw [← hW4'] at Hname Hmain Hz4 Hc3
 have HW4 : Hid ((((w.alloc (.cells #[.pointer (some ⟨s, 0, none⟩)] 37)).alloc (.cells #[.int .u8 q.toNat] 5)).alloc (.cells #[.int .i64 id] 3)).alloc (.cells #[.slice aB bs.length cB] 22) = W4') := Lib.hid (by rw [hW1, hW2, hW3, hW4, hW4'])
 clear hW1 hW2 hW3 hW4 hW4' Hs1 Hs3
 obtain ⟨fb, hfb⟩ : ∃ fb, d.fb = fb := ⟨_, rfl⟩
 rw [hfb] at Hmain
 clear hfb
 go_enter Tryz.func115, Tryz.ntmps115
 go_upto_region 1 with fail
 rw [HW4.out]
 have hc3 := Hc3.out
 go_wp2_with fail
 refine (Hname.out).mono ?_; rintro e w5 ⟨rfl, hb5⟩
 obtain ⟨tm, htm⟩ : ∃ tm, strL tmp = tm := ⟨_, rfl⟩
 obtain ⟨W6, hW6⟩ : ∃ W6, w5.alloc (.cells #[.string tm] 9) = W6 := ⟨_, rfl⟩
 obtain ⟨W7, hW7⟩ : ∃ W7, W6.drew.alloc (.cells (layCl sb w5.heap.size (sb + 1) (sb + 1 + 1) (sb + 1 + 1 + 1) fb).toArray 171) = W7 := ⟨_, rfl⟩
 obtain ⟨hS6, hS7, hst⟩ := Hmain.out w5 hb5 W6 (by rw [htm]; exact hW6) W7 hW7
 obtain ⟨tb, htb⟩ : ∃ tb, w5.heap.size = tb := ⟨_, rfl⟩
 rw [htb] at hW7
 have hW7 : W6.drew.alloc (.cells #[.func (.func 166) #[] #[.pointer (some ⟨sb, 0, none⟩), .pointer (some ⟨tb, 0, none⟩)], .func (.func 167) #[] #[.pointer (some ⟨sb, 0, none⟩), .pointer (some ⟨tb, 0, none⟩)], .func (.func 168) #[] #[.pointer (some ⟨sb, 0, none⟩), .pointer (some ⟨tb, 0, none⟩), .pointer (some ⟨sb + 1 + 1 + 1, 0, none⟩)], .func (.func 169) #[] #[.pointer (some ⟨sb, 0, none⟩), .pointer (some ⟨tb, 0, none⟩)], .func (.func 170) #[] #[.pointer (some ⟨sb, 0, none⟩), .pointer (some ⟨tb, 0, none⟩), .pointer (some ⟨sb + 1, 0, none⟩), .pointer (some ⟨sb + 1 + 1, 0, none⟩)], .func (.func 109) #[.pointer (some ⟨fb, 0, none⟩)] #[]] 171) = W7 := hW7
 have HS : Hid ((fun w' => w'.cell? ⟨sb, 0, none⟩ = some (.pointer (some ⟨s, 0, none⟩)) ∧ w'.cell? ⟨s, 0, none⟩ = some (.pointer (some ⟨fb, 0, none⟩))) W6.drew) := hS6
 have Hst := Lib.hid hst
 have HW6 := Lib.hid hW6
 have HW7 := Lib.hid hW7
 have Htm := Lib.hid htm
 have Htb := Lib.hid htb
 clear hS6 hst hW6 hW7 htm htb hb5 hc3
 go_upto_region 2 with fail
 (try rw [Htm.out]); (try rw [HW6.out]); (try rw [Htb.out])
 refine wp_region_noPanic ?_
 refine wp_region_held_drew (S := (fun w' => w'.cell? ⟨sb, 0, none⟩ = some (.pointer (some ⟨s, 0, none⟩)) ∧ w'.cell? ⟨s, 0, none⟩ = some (.pointer (some ⟨fb, 0, none⟩)))) (by kernel_rfl) (by first | with_reducible exact HS.out | with_reducible exact hS7 | with_reducible exact hS9) (fun hHeld => ?_)
 refine tkH 0 ?_
 try simp only [Act.put, List.setIfInBounds_toArray, List.set_cons_zero, List.set_cons_succ]
 refine tkH 1 ?_
 try simp only [Act.put, List.setIfInBounds_toArray, List.set_cons_zero, List.set_cons_succ]
 refine tkH 2 ?_
 try simp only [Act.put, List.setIfInBounds_toArray, List.set_cons_zero, List.set_cons_succ]
 refine tkH 3 ?_
 try simp only [Act.put, List.setIfInBounds_toArray, List.set_cons_zero, List.set_cons_succ]
 refine tkH 4 ?_
 try simp only [Act.put, List.setIfInBounds_toArray, List.set_cons_zero, List.set_cons_succ]
 refine tkH 5 ?_
 try simp only [Act.put, List.setIfInBounds_toArray, List.set_cons_zero, List.set_cons_succ]
 refine tkH 6 ?_
 try simp only [Act.put, List.setIfInBounds_toArray, List.set_cons_zero, List.set_cons_succ]
 refine tkH 7 ?_
 try simp only [Act.put, List.setIfInBounds_toArray, List.set_cons_zero, List.set_cons_succ]
 refine tkH 8 ?_
 try simp only [Act.put, List.setIfInBounds_toArray, List.set_cons_zero, List.set_cons_succ]
 refine tkH 9 ?_
 try simp only [Act.put, List.setIfInBounds_toArray, List.set_cons_zero, List.set_cons_succ]
 refine tkH 10 ?_
 try simp only [Act.put, List.setIfInBounds_toArray, List.set_cons_zero, List.set_cons_succ]
 refine rdH 11 fun K hK => ?_
 go_simp
 (try rw [HW7.out])
 refine hK.out _ _ (by (try dsimp only); first | with_reducible exact HS.out | with_reducible exact hS7 | with_reducible exact hS9) (fun hHeld => ?_)
 clear hK K
 try simp only [Act.put, List.setIfInBounds_toArray, List.set_cons_zero, List.set_cons_succ]
 refine rdH 12 fun K hK => ?_
 go_simp
 go_at_call 67; refine (Hst.out).mono ?_; rintro e w9 ⟨er, fs9, ρ9, rfl, hL, hS9⟩
 refine hK.out _ _ (by (try dsimp only); first | with_reducible exact HS.out | with_reducible exact hS7 | with_reducible exact hS9) (fun hHeld => ?_)
 clear hK K
 try simp only [Act.put, List.setIfInBounds_toArray, List.set_cons_zero, List.set_cons_succ]
 refine tkH 13 ?_
 try simp only [Act.put, List.setIfInBounds_toArray, List.set_cons_zero, List.set_cons_succ]
 refine wpAnyH_done (by kernel_rfl) ?_ _
 refine NoPanic.normal ?_
 go_wp2
 go_ret
 exact ⟨er, fs9, ρ9, by rw [Htmp.out]; exact hL⟩
end Go.Proofs.YtffnbkmigapmjaaGreatDoor
