/-
  A store: what it holds, as data; how it lies in memory; did, steps.
  Numbers of names: strconv.Atoi at any text; the walk of ids.number.
  The walks of ids.numbers: an iterator over the names of numbers.
-/
import Derived.Test.YtffnbkmigapmjaaGreatDoorT6
import Derived.Test.YtffnbkmigapmjaaGreatDoorT17
import Derived.Lib.AtoiTie
import Derived.Lib.SlicesS
set_option linter.unusedSimpArgs false
set_option linter.unusedVariables false
set_option maxRecDepth 100000
namespace Go.Proofs.YtffnbkmigapmjaaGreatDoor
open Go.RowKit Go.Maps
structure StoD where
 fs : FsD
 fb : Nat
 ib : Nat
 mb : Nat
 last : Int
 bound : Int
 nfile : Nm
 whr : Wh
 down : Bool
structure StoAt (w : World) (s : Nat) (d : StoD) (ρ : Rho) : Prop where
 fs : FsAt w d.fb d.fs ρ
 hd : w.heap[s]? = some (.cells #[.pointer (some ⟨d.fb, 0, none⟩), .pointer (some ⟨d.ib, 0, none⟩), .map (some d.mb), .bool d.down] 112 (0, 0))
 ids : w.heap[d.ib]? = some (.cells #[.pointer (some ⟨d.fb, 0, none⟩), .int .i64 d.last, .int .i64 d.bound, .string (strL d.nfile)] 149 (0, 0))
 whr : WhAt w d.mb d.whr
 rs : ρ s = none
 ri : ρ d.ib = none
 rm : ρ d.mb = none
theorem StoAt.si {w : World} {s : Nat} {d : StoD} {ρ : Rho} (h : StoAt w s d ρ) : s ≠ d.ib := fun e => by
 have h1 := h.hd
 rw [e, h.ids] at h1
 injection h1 with h1; injection h1 with _ h1; cases h1
theorem StoAt.sm {w : World} {s : Nat} {d : StoD} {ρ : Rho} (h : StoAt w s d ρ) : s ≠ d.mb := fun e => by
 obtain ⟨es, clock, h1, _⟩ := h.whr
 rw [← e, h.hd] at h1; cases h1
theorem StoAt.im {w : World} {s : Nat} {d : StoD} {ρ : Rho} (h : StoAt w s d ρ) : d.ib ≠ d.mb := fun e => by
 obtain ⟨es, clock, h1, _⟩ := h.whr
 rw [← e, h.ids] at h1; cases h1
def stoOwn (s : Nat) (d : StoD) (ρ : Rho) (k : Nat) : Prop := ρ.has k ∨ k = s ∨ k = d.ib ∨ k = d.mb
structure StoStep (w : World) (s : Nat) (d : StoD) (ρ : Rho) (w' : World) (d' : StoD) (ρ' : Rho) : Prop where
 keeps : Keeps (stoOwn s d ρ) w w'
 grow : ∀ k, stoOwn s d' ρ' k → stoOwn s d ρ k ∨ w.heap.size ≤ k
theorem StoStep.refl (w : World) (s : Nat) (d : StoD) (ρ : Rho) : StoStep w s d ρ w d ρ := ⟨Keeps.refl _ _, fun _ h => .inl h⟩
theorem StoStep.trans {a b c : World} {s : Nat} {d e f : StoD} {ρ σ τ : Rho} (h : StoStep a s d ρ b e σ) (k : StoStep b s e σ c f τ) : StoStep a s d ρ c f τ :=
 ⟨h.keeps.go k.keeps h.grow, fun x hx => by
  rcases k.grow x hx with e | e
  ·exact h.grow x e
  ·exact .inr (Nat.le_trans h.keeps.size e)⟩
section
variable {w w' : World} {s : Nat} {d : StoD} {ρ ρ' : Rho}
theorem StoAt.keeps {F : Nat → Prop} (h : StoAt w s d ρ) (hk : Keeps F w w') (hF : ∀ k, F k → ¬ stoOwn s d ρ k) : StoAt w' s d ρ :=
 ⟨h.fs.keeps hk (fun k e => by
  cases hr : ρ k with
  | none => rfl
  | some r => exact absurd (Or.inl (Rho.has_of hr)) (hF k e)),
  hk.heap h.hd (fun e => hF _ e (.inr (.inl rfl))), hk.heap h.ids (fun e => hF _ e (.inr (.inr (.inl rfl)))), whMap_keeps h.whr hk (fun e => hF _ e (.inr (.inr (.inr rfl)))), h.rs, h.ri, h.rm⟩
theorem StoAt.below (h : StoAt w s d ρ) (hb : Below w.heap.size w w') : StoAt w' s d ρ := h.keeps (F := fun _ => False) (Keeps.ofBelow hb) (fun _ e => e.elim)
theorem StoStep.below (h : Below w.heap.size w w') : StoStep w s d ρ w' d ρ := ⟨Keeps.ofBelow h, fun _ h => .inl h⟩
theorem StoAt.fsStep {fs' : FsD} (h : StoAt w s d ρ) (hf : FsAt w' d.fb fs' ρ') (hst : FsStep w ρ w' ρ') : StoAt w' s { d with fs := fs' } ρ' ∧ StoStep w s d ρ w' { d with fs := fs' } ρ' := by
 have hn : ∀ {k : Nat}, ρ k = none → ¬ ρ.has k := fun h1 h2 => by unfold Rho.has at h2; rw [h1] at h2; cases h2
 have hn' : ∀ {k : Nat}, ρ k = none → k < w.heap.size → ρ' k = none := fun {k} h1 h2 => by
  cases hr : ρ' k with
  | none => rfl
  | some r => rcases hst.grow k (Rho.has_of hr) with e | e
              ·exact absurd e (hn h1)
              ·omega
 have ls := (Array.getElem?_eq_some_iff.1 h.hd).1
 have li := (Array.getElem?_eq_some_iff.1 h.ids).1
 refine ⟨⟨hf, hst.keeps.heap h.hd (hn h.rs), hst.keeps.heap h.ids (hn h.ri), whMap_keeps h.whr hst.keeps (hn h.rm), hn' h.rs ls, hn' h.ri li, hn' h.rm h.whr.lt⟩, ⟨hst.keeps.mono (fun k _ e => .inl e), fun k e => ?_⟩⟩
 rcases e with e | e
 ·rcases hst.grow k e with e | e
  ·exact .inl (.inl e)
  ·exact .inr e
 ·exact .inl (.inr e)
theorem StoAt.head {d' : StoD} (h : StoAt w s d ρ) (hk : Keeps (fun k => k = s) w w') (he : d' = { d with down := d'.down }) (hd : w'.heap[s]? = some (.cells #[.pointer (some ⟨d.fb, 0, none⟩), .pointer (some ⟨d.ib, 0, none⟩), .map (some d.mb), .bool d'.down] 112 (0, 0))) : StoAt w' s d' ρ ∧ StoStep w s d ρ w' d' ρ := by
 rw [he]
 refine ⟨⟨h.fs.keeps hk (fun k e => by rw [e]; exact h.rs), hd, hk.heap h.ids (fun e => h.si e.symm), whMap_keeps h.whr hk (fun e => h.sm e.symm), h.rs, h.ri, h.rm⟩, ⟨hk.mono (fun k _ e => .inr (.inl e)), fun k e => .inl e⟩⟩
end
theorem cell1 {w : World} {b : Nat} {t : TypeId} {x : Value} (h : w.heap[b]? = some (.cells #[x] t (0, 0))) : w.cell? ⟨b, 0, none⟩ = some x := by rw [cell_of_row _ _ _ _ _ _ h]; rfl
theorem cells4 {w : World} {b : Nat} {t : TypeId} {x0 x1 x2 x3 : Value} (hb : w.heap[b]? = some (.cells #[x0, x1, x2, x3] t (0, 0))) :
 (w.cell? ⟨b, 0, none⟩ = some x0 ∧ w.cell? ⟨b, 1, none⟩ = some x1 ∧ w.cell? ⟨b, 2, none⟩ = some x2 ∧ w.cell? ⟨b, 3, none⟩ = some x3) ∧ ∀ j, w.frozen? ⟨b, j, none⟩ = false :=
 ⟨⟨by rw [cell_of_row _ _ _ _ _ _ hb]; rfl, by rw [cell_of_row _ _ _ _ _ _ hb]; rfl, by rw [cell_of_row _ _ _ _ _ _ hb]; rfl, by rw [cell_of_row _ _ _ _ _ _ hb]; rfl⟩, fun j => frozen_of_row _ _ _ _ _ hb⟩
set_option maxHeartbeats 4000000 in
theorem did_calls (s : Nat) (dn : Bool) (er : Int) (w : World) (hc : w.cell? ⟨s, 3, none⟩ = some (.bool dn)) (hf : w.frozen? ⟨s, 3, none⟩ = false) :
 Calls Tryz.prog 100 #[.pointer (some ⟨s, 0, none⟩), .int .i64 er] w fun e w' => e = .returned (.int .i64 er) ∧ w' = w.setCell ⟨s, 3, none⟩ (.bool (dn || decide (er = 2))) := by
 cases dn with
 | true =>
  go_enter Tryz.func100, Tryz.ntmps100
  go_wp2
  go_ret
  exact ⟨rfl, rfl⟩
 | false =>
  by_cases h : er = 2
  ·subst h
   go_enter Tryz.func100, Tryz.ntmps100
   go_wp2
   go_ret
   exact ⟨rfl, rfl⟩
  ·have h1 : (er == 2) = false := by simpa using h
   have h2 : Hid (decide (er = 2) = false) := Lib.hid (decide_eq_false h)
   go_enter Tryz.func100, Tryz.ntmps100
   go_wp2
   go_ret
   rw [h2.out]
   exact ⟨rfl, rfl⟩
def v1 (f : Value) : List Value := [f]
def StepAt (s : Nat) (P : World → Prop) (P' : World → Prop) (X : Int → World → Prop) (f : Value) : Prop :=
 ∃ g fst caps, f = .func (.func g) fst caps ∧ Enters Tryz.prog g ∧ ∀ w, P w → Calls Tryz.prog g (fst ++ caps) w fun e w' => ∃ er dn, e = .returned (.int .i64 er) ∧ w'.cell? ⟨s, 3, none⟩ = some (.bool dn) ∧ w'.frozen? ⟨s, 3, none⟩ = false ∧
  (er = 0 → P' (w'.setCell ⟨s, 3, none⟩ (.bool dn))) ∧ (er ≠ 0 → X er (w'.setCell ⟨s, 3, none⟩ (.bool (dn || decide (er = 2)))))
set_option maxHeartbeats 8000000 in
theorem steps_calls (s : Nat) (v : Value) (cl : List Value) (w : World) (P : Nat → World → Prop) (X : Int → World → Prop) (hrd : ∀ i w, P i w → RdL 1 v1 w v cl) (hst : ∀ i f, cl[i]? = some f → StepAt s (P i) (P (i + 1)) X f) (hl : cl.length ≤ 100) (h0 : P 0 w) :
 Calls Tryz.prog 67 #[.pointer (some ⟨s, 0, none⟩), v] w fun e w' => (e = .returned (.int .i64 0) ∧ P cl.length w') ∨ ∃ er, er ≠ 0 ∧ e = .returned (.int .i64 er) ∧ X er w' := by
 obtain ⟨a, cap, rfl, hlc, hcap⟩ := (hrd 0 w h0).form
 have hli : (cl.length : Int) ≤ 100 := by omega
 have Hrd := Lib.hid hrd
 have Hst := Lib.hid hst
 have H0 := Lib.hid h0
 clear hrd hst h0
 go_enter Tryz.func67, Tryz.ntmps67
 go_wp2
 go_loopw [6, 7, 10] (fun f e i wr => ∃ j : Nat, j ≤ cl.length ∧ i = .int .i64 j ∧ Hid (P j wr)) (fun _ _ i _ => cl.length - (intOf i).toNat)
 case atStart => exact ⟨0, Nat.zero_le _, rfl, H0⟩
 case round =>
  obtain ⟨j, hj, rfl, hP⟩ := hrel
  by_cases hlt : j < cl.length
  ·obtain ⟨f, hf⟩ : ∃ f, cl[j]? = some f := ⟨_, List.getElem?_eq_getElem hlt⟩
   obtain ⟨b, off, cap', hsl, hbl, h3⟩ := RdL.at (Hrd.out j wr hP.out) hf
   have hc := h3 0 _ rfl
   rw [Nat.mul_one, Nat.add_zero] at hc
   obtain ⟨g, fst, caps, rfl, hent0, hcall⟩ := Hst.out j f hf
   have hent : ∀ (args : Array Value) (w : World), (callFunc g args).run Tryz.prog w = .ok (.enter g args) w := hent0
   have Hcall := Lib.hid (hcall wr hP.out)
   have hj0 : (0 : Int) ≤ (j : Int) := by omega
   have hj1 : (j : Int) < (cl.length : Int) := by omega
   cases hsl
   clear hcall hent0 h3 hf hP
   go_wp2_with fail
   refine (Hcall.out).mono ?_; rintro e w1 ⟨er, dn, rfl, hc1, hf1, hok, hbad⟩
   have hd := did_calls s dn er w1 hc1 hf1
   have Hd := Lib.hid hd
   have Hok := Lib.hid hok
   have Hbad := Lib.hid hbad
   clear hd hc1 hf1 hok hbad hc
   go_wp2_with fail
   refine (Hd.out).mono ?_; rintro e w2 ⟨rfl, hw2⟩
   by_cases h0 : er = 0
   ·subst h0
    have hdn : (dn || decide ((0 : Int) = 2)) = dn := by cases dn <;> rfl
    rw [hdn] at hw2
    have hP2 : Hid (P (j + 1) w2) := Lib.hid (by rw [hw2]; exact Hok.out rfl)
    clear hw2 hdn
    go_wp2
    go_roundw
    case rel => exact ⟨j + 1, by omega, by simp, hP2⟩
    case measure => simp [intOf] <;> omega
   ·have h0' : (er == 0) = false := by simpa using h0
    have hX : Hid (X er w2) := Lib.hid (by rw [hw2]; exact Hbad.out h0)
    clear hw2
    go_wp2
    go_ret
    exact .inr ⟨er, h0, rfl, hX.out⟩
  ·have hje : j = cl.length := by omega
   subst hje
   have hjl : ¬ ((cl.length : Int) < (cl.length : Int)) := by omega
   go_wp2
   go_ret
   exact .inl ⟨rfl, hP.out⟩
end Go.Proofs.YtffnbkmigapmjaaGreatDoor
set_option maxRecDepth 100000
namespace Go.Proofs.YtffnbkmigapmjaaGreatDoor
open Go.RowKit Go.Maps
theorem decFrom_append : ∀ (a b : List UInt8) (acc : Nat), Lib.decFrom acc (a ++ b) = (Lib.decFrom acc a).bind (fun m => Lib.decFrom m b)
 | [], b, acc => rfl
 | c :: r, b, acc => by
  show Lib.decFrom acc (c :: (r ++ b)) = _
  rw [Lib.decFrom, Lib.decFrom]
  cases Lib.digitVal c with
  | none => rfl
  | some d => exact decFrom_append r b _
theorem digit_of (k : Nat) (h : k < 10) : Lib.digitVal (UInt8.ofNat (48 + k)) = some k := by
 have e : (UInt8.ofNat (48 + k)).toNat = 48 + k := by rw [UInt8.toNat_ofNat']; omega
 unfold Lib.digitVal
 rw [e, if_pos (by omega)]
 congr 1; omega
theorem decFrom_digits (n : Nat) : Lib.decFrom 0 (Lib.decDigits n) = some n := by
 induction n using Nat.strongRecOn with
 | _ n ih =>
  rw [Lib.decDigits]
  by_cases h : n < 10
  ·rw [dif_pos h, Lib.decFrom, digit_of n h]; simp [Lib.decFrom]
  ·rw [dif_neg h, decFrom_append, ih (n / 10) (by omega)]
   show Lib.decFrom (n / 10) [_] = _
   rw [Lib.decFrom, digit_of _ (by omega)]
   simp only [Lib.decFrom]
   congr 1; omega
theorem decFrom_zeros : ∀ k, Lib.decFrom 0 (List.replicate k 48) = some 0
 | 0 => rfl
 | k + 1 => by
  rw [List.replicate_succ, Lib.decFrom]
  exact decFrom_zeros k
theorem decFrom_numD (n : Nat) : Lib.decFrom 0 (numD n) = some n := by
 unfold numD; rw [decFrom_append, decFrom_zeros]; exact decFrom_digits n
theorem numD_inj {a b : Nat} (h : numD a = numD b) : a = b := by
 have := decFrom_numD a; rw [h, decFrom_numD b] at this; exact (Option.some.inj this).symm
theorem atoi_numD {n : Nat} (h : n ≤ 999999999) : Lib.atoiAll (numD n) = .ok (n : Int) := by
 have hl := numD_length h
 rw [Lib.atoiAll_short _ (by omega)]
 have hd := decFrom_numD n
 cases hc : numD n with
 | nil => rw [hc] at hl; cases hl
 | cons b r =>
  rw [hc] at hd
  obtain ⟨d, hb⟩ := Lib.digit_of_decFrom _ _ _ hd 0 b rfl
  obtain ⟨h1, h2, _⟩ := Lib.digitVal_eq hb
  have e1 : (b == 45) = false := by
   rw [beq_eq_false_iff_ne]; intro e; rw [e] at h1; exact absurd h1 (by decide)
  have e2 : (b == 43) = false := by
   rw [beq_eq_false_iff_ne]; intro e; rw [e] at h1; exact absurd h1 (by decide)
  rw [Lib.atoi, e1, e2]
  show Lib.NumEnd.ofOption ((Lib.decNat (b :: r)).map _) = _
  unfold Lib.decNat
  rw [show (b :: r).isEmpty = false from rfl]
  show Lib.NumEnd.ofOption ((Lib.decFrom 0 (b :: r)).map _) = _
  rw [hd]; rfl
structure GOk (w : World) : Prop where
 size : NG ≤ w.heap.size
 itoa : ∀ n, n ≤ 999999999 → ItoaOk n w
 syn : ∃ ev, w.cell? ⟨2, 0, none⟩ = some ev ∧ (ev = .nilIface ∨ ∃ t p, ev = .iface t p)
 rng : ∃ ev, w.cell? ⟨3, 0, none⟩ = some ev ∧ (ev = .nilIface ∨ ∃ t p, ev = .iface t p)
theorem cell_gb {w w' : World} {b : Nat} {v : Value} (h : w.cell? ⟨b, 0, none⟩ = some v) (hg : GB w w') (hb : b < NG) : w'.cell? ⟨b, 0, none⟩ = some v := by
 have hl := Lib.lt_of_cell h
 rw [← h, World.cell?, World.cell?, hg.block b hb hl]
theorem GOk.gb {w w' : World} (h : GOk w) (hg : GB w w') : GOk w' := by
 obtain ⟨e1, h1, h2⟩ := h.syn
 obtain ⟨e2, h3, h4⟩ := h.rng
 exact ⟨Nat.le_trans h.size hg.size, fun n hn => (h.itoa n hn).gb hg, ⟨e1, cell_gb h1 hg (by unfold NG; omega), h2⟩, ⟨e2, cell_gb h3 hg (by unfold NG; omega), h4⟩⟩
theorem GOk.below {w w' : World} (h : GOk w) (hb : Below w.heap.size w w') : GOk w' := h.gb (GB.below hb)
theorem GOk.int {w : World} (h : GOk w) (n : Int) : 0 ≤ n → n ≤ 999999999 → ItoaOk n.toNat w := fun a b => h.itoa _ (by omega)
def NumIs (s : List UInt8) (n : Int) (ev : Value) : Prop := (Lib.atoiAll s = .ok n ∧ ev = .nilIface) ∨ ((∀ v, Lib.atoiAll s ≠ .ok v) ∧ ∃ t p, ev = .iface t p)
theorem atoi_calls (s : List UInt8) (hs : s.length ≤ 281474976710656) (w : World) (hg : GOk w) :
 Calls Tryz.prog 139 #[.string (strL s)] w fun e w' => ∃ n ev, e = .returned (.tuple #[.int .i64 n, ev]) ∧ NumIs s n ev ∧ Below w.heap.size w w' := by
 have hz := strL_size s
 obtain ⟨e1, h1, h2⟩ := hg.syn
 obtain ⟨e2, h3, h4⟩ := hg.rng
 cases hc : Lib.atoiAll s
 ·rename_i v
  refine (Tryz.strconv_Atoi_ok (strL s) (by omega) v (by rw [strL_data]; exact hc) w).mono fun e w' h => ?_
  refine ⟨v, .nilIface, h.1, .inl ⟨hc, rfl⟩, ?_⟩
  rcases h.2 with e | ⟨t, e⟩
  ·rw [e]; exact Below.refl _ _
  ·rw [e]; exact Lib.bytesWorld_below _ _ _
 ·refine (Tryz.strconv_Atoi_syntax (strL s) (by omega) (by rw [strL_data]; intro v e; rw [hc] at e; cases e) (by rw [strL_data]; intro e; rw [hc] at e; cases e) e1 w h1 h2).mono fun e w' h => ?_
  obtain ⟨N, he, _, _, hb⟩ := h
  exact ⟨0, _, he, .inr ⟨(fun v e => by rw [hc] at e; cases e), _, _, rfl⟩, hb⟩
 ·refine (Tryz.strconv_Atoi_range (strL s) (by omega) (by rw [strL_data]; exact hc) e2 w h3 h4).mono fun e w' h => ?_
  obtain ⟨N, he, _, _, hb⟩ := h
  exact ⟨_, _, he, .inr ⟨(fun v e => by rw [hc] at e; cases e), _, _, rfl⟩, hb⟩
theorem idsNameD_nil {n : Int} (h : ¬ (0 ≤ n ∧ n ≤ 999999999)) : idsNameD n = [] := by unfold idsNameD; rw [if_neg h]
theorem idsNameD_of {n : Int} (h : 0 ≤ n ∧ n ≤ 999999999) : idsNameD n = [110, 101, 120, 116, 45] ++ numD n.toNat := by unfold idsNameD; rw [if_pos h]
def NumOf (s : Nm) (n : Int) : Prop := 0 ≤ n ∧ n ≤ 999999999 ∧ s = idsNameD n
theorem NumOf.inj {s : Nm} {n m : Int} (h : NumOf s n) (g : NumOf s m) : n = m := by
 have e := h.2.2.symm.trans g.2.2
 rw [idsNameD_of ⟨h.1, h.2.1⟩, idsNameD_of ⟨g.1, g.2.1⟩] at e
 have := numD_inj (List.append_cancel_left e)
 have := h.1; have := g.1; omega
def NumberDone (s : Nm) (w : World) (e : Ending) (w' : World) : Prop := ∃ n b, e = .returned (.tuple #[.int .i64 n, .bool b]) ∧ (b = true → NumOf s n) ∧ (b = false → ∀ m, ¬ NumOf s m) ∧ Below w.heap.size w w'
set_option maxHeartbeats 8000000 in
theorem number_calls (s : Nm) (hs : s.length ≤ 1000) (w : World) (hg : GOk w) :
 Calls Tryz.prog 136 #[.string (strL s)] w (NumberDone s w) := by
 have hcut := fun w => Tryz.strings_CutPrefix (strL s) ⟨#[110, 101, 120, 116, 45]⟩ w
 rw [strL_data] at hcut
 have e5 : (⟨#[110, 101, 120, 116, 45]⟩ : ByteArray).data.toList = [110, 101, 120, 116, 45] := rfl
 rw [e5] at hcut
 have hsz := strL_size s
 cases hp : Lib.hasPrefix s [110, 101, 120, 116, 45] with
 | false =>
  have ht : Lib.trimPrefix s [110, 101, 120, 116, 45] = s := by unfold Lib.trimPrefix; rw [hp]; rfl
  have hno : Hid (∀ m, ¬ NumOf s m) := Lib.hid (fun m h => by
   rw [h.2.2, idsNameD_of ⟨h.1, h.2.1⟩] at hp
   simp [Lib.hasPrefix] at hp)
  rw [hp, ht] at hcut
  have hat := fun w hg => atoi_calls s (by omega) w hg
  obtain ⟨t, htt⟩ : ∃ t, strL s = t := ⟨_, rfl⟩
  have hcut : ∀ w, Calls Tryz.prog 180 #[.string t, .string ⟨#[110, 101, 120, 116, 45]⟩] w fun e w' => e = .returned (.tuple #[.string t, .bool false]) ∧ w' = w := by rw [← htt]; exact hcut
  rw [htt] at hat ⊢
  have Hcut := Lib.hid hcut
  have Hat := Lib.hid hat
  have Hg := Lib.hid hg
  clear hcut hat hg hp ht htt hsz
  go_enter Tryz.func136, Tryz.ntmps136
  go_wp2_with fail
  refine (Hcut.out _).mono ?_; rintro e w1 ⟨rfl, hw1⟩; have hw1 := hw1.symm; subst hw1
  go_wp2_with fail
  refine (Hat.out _ Hg.out).mono ?_; rintro e w1 ⟨n, ev, rfl, hn, hb⟩
  have hev : ev = .nilIface ∨ ∃ t p, ev = .iface t p := by
   rcases hn with ⟨_, e⟩ | ⟨_, e⟩
   ·exact .inl e
   ·exact .inr e
  have Hb := Lib.hid hb
  clear hn hb
  rcases hev with rfl | ⟨tt, p, rfl⟩
  ·go_wp2
   go_ret2
   exact ⟨n, false, rfl, (fun e => by cases e), fun _ => hno.out, Hb.out⟩
  ·go_wp2
   go_ret2
   exact ⟨n, false, rfl, (fun e => by cases e), fun _ => hno.out, Hb.out⟩
 | true =>
  obtain ⟨r, hr⟩ : ∃ r, s = [110, 101, 120, 116, 45] ++ r := by
   unfold Lib.hasPrefix at hp
   obtain ⟨r, h⟩ := List.isPrefixOf_iff_prefix.1 hp
   exact ⟨r, h.symm⟩
  have ht : Lib.trimPrefix s [110, 101, 120, 116, 45] = r := by unfold Lib.trimPrefix; rw [hp, hr]; rfl
  rw [hp, ht] at hcut
  have hrl : r.length ≤ 281474976710656 := by rw [hr] at hs; simp at hs; omega
  have hat := fun w hg => atoi_calls r hrl w hg
  obtain ⟨t, htt⟩ : ∃ t, strL s = t := ⟨_, rfl⟩
  obtain ⟨u, huu⟩ : ∃ u, strL r = u := ⟨_, rfl⟩
  have hcut : ∀ w, Calls Tryz.prog 180 #[.string t, .string ⟨#[110, 101, 120, 116, 45]⟩] w fun e w' => e = .returned (.tuple #[.string u, .bool true]) ∧ w' = w := by rw [← htt, ← huu]; exact hcut
  rw [huu] at hat
  rw [htt]
  have Hcut := Lib.hid hcut
  have Hat := Lib.hid hat
  have Hg := Lib.hid hg
  have Htt := Lib.hid htt
  have Hr := Lib.hid hr
  clear hcut hat hg hp ht htt hsz huu hr hrl
  go_enter Tryz.func136, Tryz.ntmps136
  go_wp2_with fail
  refine (Hcut.out _).mono ?_; rintro e w1 ⟨rfl, hw1⟩; have hw1 := hw1.symm; subst hw1
  go_wp2_with fail
  refine (Hat.out _ Hg.out).mono ?_; rintro e w1 ⟨n, ev, rfl, hn, hb⟩
  have Hb := Lib.hid hb
  have Hn := Lib.hid hn
  clear hn hb
  rcases Hn.out with ⟨h1, rfl⟩ | ⟨h1, tt, p, rfl⟩
  ·have hnm := idsName_calls n w1 ((Hg.out.below Hb.out).int n)
   obtain ⟨m, hm⟩ : ∃ m, strL (idsNameD n) = m := ⟨_, rfl⟩
   rw [hm] at hnm
   have Hnm := Lib.hid hnm
   have Hm := Lib.hid hm
   have H1 := Lib.hid h1
   clear hnm hm h1
   by_cases heq : m.toList = t.toList
   ·have hE : (m.toList == t.toList) = true := by simpa using heq
    have HE := Lib.hid heq
    clear heq
    go_wp2_with fail
    refine (Hnm.out).mono ?_; rintro e w2 ⟨rfl, hb2⟩
    go_wp2
    go_ret2
    refine ⟨n, true, rfl, fun _ => ?_, (fun e => by cases e), Hb.out.trans (hb2.mono Hb.out.size)⟩
    have e1 : m = t := by
     exact (Lib.bytes_beq_iff _ _).1 (by simpa using HE.out)
    have e2 : idsNameD n = s := strL_inj (by rw [Hm.out, Htt.out, e1])
    by_cases hh : 0 ≤ n ∧ n ≤ 999999999
    ·exact ⟨hh.1, hh.2, e2.symm⟩
    ·rw [idsNameD_nil hh, Hr.out] at e2; cases e2
   ·have hE : (m.toList == t.toList) = false := by simpa using heq
    have HE := Lib.hid heq
    clear heq
    go_wp2_with fail
    refine (Hnm.out).mono ?_; rintro e w2 ⟨rfl, hb2⟩
    go_wp2
    go_ret2
    refine ⟨n, false, rfl, (fun e => by cases e), fun _ m' h' => HE.out ?_, Hb.out.trans (hb2.mono Hb.out.size)⟩
    have e3 : r = numD m'.toNat := by
     have := h'.2.2; rw [idsNameD_of ⟨h'.1, h'.2.1⟩, Hr.out] at this; exact List.append_cancel_left this
    have e4 : n = m' := by
     have := H1.out
     rw [e3, atoi_numD (by have := h'.2.1; omega)] at this
     injection this with this
     have := h'.1; omega
    rw [← Hm.out, ← Htt.out, e4, h'.2.2]
  ·have hno : Hid (∀ m, ¬ NumOf s m) := Lib.hid (fun m h => by
    have e3 : r = numD m.toNat := by
     have := h.2.2; rw [idsNameD_of ⟨h.1, h.2.1⟩, Hr.out] at this; exact List.append_cancel_left this
    exact h1 _ (by rw [e3]; exact atoi_numD (by have := h.2.1; omega)))
   clear h1
   go_wp2
   go_ret2
   exact ⟨n, false, rfl, (fun e => by cases e), fun _ => hno.out, Hb.out⟩
end Go.Proofs.YtffnbkmigapmjaaGreatDoor
set_option maxRecDepth 100000
namespace Go.Proofs.YtffnbkmigapmjaaGreatDoor
open Go.RowKit Go.Maps Go.Shelf
attribute [local go_sem] Oper.semAt_some
def numbD (s : Nm) : Option Int := match Lib.atoiAll (s.drop 5) with
 | .ok v => if 0 ≤ v ∧ v ≤ 999999999 ∧ s = idsNameD v then some v else none
 | _ => none
theorem numbD_iff (s : Nm) (n : Int) : numbD s = some n ↔ NumOf s n := by
 constructor
 ·intro h
  unfold numbD at h
  split at h
  ·split at h
   ·rename_i h1; cases h; exact h1
   ·cases h
  ·cases h
 ·rintro ⟨h0, h1, h2⟩
  have e : s.drop 5 = numD n.toNat := by rw [h2, idsNameD_of ⟨h0, h1⟩]; rfl
  unfold numbD
  rw [e, atoi_numD (by omega)]
  dsimp only
  rw [show ((n.toNat : Nat) : Int) = n by omega, if_pos ⟨h0, h1, h2⟩]
theorem numbD_done {s : Nm} {n : Int} {b : Bool} (h1 : b = true → NumOf s n) (h0 : b = false → ∀ m, ¬ NumOf s m) : numbD s = if b then some n else none := by
 cases b with
 | true => exact (numbD_iff s n).2 (h1 rfl)
 | false =>
  cases h : numbD s with
  | none => rfl
  | some m => exact absurd ((numbD_iff s m).1 h) (h0 rfl m)
def numL (names : List Nm) : List (Int × Nm) := names.filterMap fun s => (numbD s).map fun n => (n, s)
theorem numL_snoc (l : List Nm) (s : Nm) : numL (l ++ [s]) = numL l ++ (match numbD s with | some n => [(n, s)] | none => []) := by
 unfold numL
 rw [List.filterMap_append]
 congr 1
 cases h : numbD s with
 | none => simp [h]
 | some n => simp [h]
theorem numL_le (l : List Nm) : (numL l).length ≤ l.length := List.length_filterMap_le _ _
set_option maxHeartbeats 8000000 in
theorem nums1_in (n : Nat) (hn : 2 ≤ n) (l sb : Nat) (v : Value) (names : List Nm) (Fp : Nat → Prop) (hFs : ¬ Fp sb) (hFv : ∀ b o len c, v = .slice (some ⟨b, o, none⟩) len c → ¬ Fp b) (hFg : ∀ k, Fp k → NG ≤ k)
 (hnm : ∀ s ∈ names, s.length ≤ 1000) (hnl : names.length ≤ 1000000) (J Jx : List (Int × Nm) → World → Prop)
 (hJ : ∀ pre W W', J pre W → Below W.heap.size W W' → J pre W')
 (hY : ∀ pre (x : Int × Nm) W, J pre W → pre.length < names.length → YieldAt Fence.wide (n - 1) Tryz.prog l #[.int .i64 x.1, .string (strL x.2)] W fun e W' =>
  (e = .returned (.bool true) ∧ J (pre ++ [x]) W' ∧ Keeps Fp W W') ∨ (e = .returned (.bool false) ∧ Jx (pre ++ [x]) W'))
 (W : World) (hs : W.cell? ⟨sb, 0, none⟩ = some v) (hv : RdS W v names) (hg : GOk W) (h0 : J [] W) :
 CallsIn Fence.wide n Tryz.prog 135 #[.func (.yield l) #[] #[], .pointer (some ⟨sb, 0, none⟩)] W fun e W' => (∃ v, e = .returned v) ∧
  ((∃ ys, ys = numL names ∧ J ys W') ∨ (∃ pre, True ∧ Jx pre W')) := by
 obtain ⟨a, cap, rfl, hlc, hcap⟩ := hv.form
 have hli : (names.length : Int) ≤ 1000000 := by omega
 have Hv := Lib.hid hv
 have H0 := Lib.hid h0
 have Hg := Lib.hid hg
 have Hnm := Lib.hid hnm
 clear hv h0 hg hnm
 refine callsIn_of_wp Tryz.func135 rfl trivial ?_ rfl
 simp only [Tryz.ntmps135, List.size_toArray, List.length_cons, List.length_nil, Nat.reduceAdd, Nat.reduceSub, Array.replicate_succ, Array.replicate_zero, List.push_toArray, List.append_toArray, List.nil_append, List.cons_append]
 gi_wp2
 gi_loopw [4, 5, 6, 9] (fun c0 c1 c2 i wr => ∃ k : Nat, k ≤ names.length ∧ i = .int .i64 (k : Int) ∧ Hid (J (numL (names.take k)) wr) ∧ Hid (Keeps Fp W wr))
  (fun _ _ _ i _ => names.length - (intOf i).toNat)
 case atStart => exact ⟨0, Nat.zero_le _, rfl, H0, Lib.hid (Keeps.refl _ _)⟩
 case round =>
  obtain ⟨k, hk, rfl, hP, hK⟩ := hrel
  by_cases hlt : k < names.length
  ·obtain ⟨s, hf⟩ : ∃ s, names[k]? = some s := ⟨_, List.getElem?_eq_getElem hlt⟩
   have hvr := Hv.out.keeps hK.out (fun b o l c e => hFv b o l c e)
   obtain ⟨b, off, cap', hsl, hbl, hc⟩ := RdS.at hvr hf
   cases hsl
   have hmem : s ∈ names := List.mem_of_getElem? hf
   have hgr := Hg.out.gb (GB.keeps hK.out hFg)
   have hnum := number_calls s (Hnm.out s hmem) wr hgr
   have hnum := (callsIn_wide (n := n - 1)).2 hnum
   have Hnum := Lib.hid hnum
   have htk : names.take (k + 1) = names.take k ++ [s] := by rw [List.take_add_one, hf]; rfl
   have Htk := Lib.hid htk
   obtain ⟨t, htt⟩ : ∃ t, strL s = t := ⟨_, rfl⟩
   rw [htt] at hc Hnum
   have Htt := Lib.hid htt
   have hk0 : (0 : Int) ≤ (k : Int) := by omega
   have hk1 : (k : Int) < (names.length : Int) := by omega
   have hkw : IntKind.i64.wrap ((k : Int) + 1) = (k : Int) + 1 := IntWalk.i64_in _ (by omega)
   have hpl : (numL (names.take k)).length < names.length := by have := numL_le (names.take k); rw [List.length_take] at this; omega
   have Hpl := Lib.hid hpl
   clear hvr hgr hnum htk hf hmem htt hpl
   gi_wp2_with fail
   refine ⟨trivial, fun _ => by omega, ?_⟩
   refine (Hnum.out).mono ?_; rintro e W1 ⟨m, bb, rfl, hb1, hb0, hbel⟩
   have hnd := numbD_done hb1 hb0
   have hJ1 := hJ _ _ _ hP.out hbel
   have hK1 := hK.out.trans (Keeps.ofBelow (F := Fp) hbel)
   have Hnd := Lib.hid hnd
   have HJ1 := Lib.hid hJ1
   have HK1 := Lib.hid hK1
   clear hb1 hb0 hnd hJ1 hK1 hbel
   cases bb with
   | false =>
    gi_wp2
    all_goals refine ⟨fun _ _ => trivial, ?_⟩
    all_goals
     gi_wp2
     go_roundw
     case rel =>
      refine ⟨k + 1, by omega, by simp, ?_, HK1⟩
      have e1 := Hnd.out
      rw [Htk.out, numL_snoc, e1]
      simpa using HJ1
     case measure => simp [intOf] <;> omega
   | true =>
    obtain ⟨fn, tmps, assign, body, hy, hR⟩ := hY _ (m, s) W1 HJ1.out Hpl.out
    dsimp only at hy
    rw [Htt.out] at hy
    have HR := Lib.hid hR
    clear hR
    gi_wp2
    refine ⟨fun _ => by omega, ?_⟩
    refine (HR.out).mono ?_
    rintro e W3 (⟨rfl, hJ3, hk3⟩ | ⟨rfl, hJx3⟩)
    ·have HJ3 := Lib.hid hJ3
     have HK3 := Lib.hid (HK1.out.trans hk3)
     clear hJ3 hk3
     gi_wp2
     go_roundw
     case rel =>
      refine ⟨k + 1, by omega, by simp, ?_, HK3⟩
      have e1 := Hnd.out
      rw [Htk.out, numL_snoc, e1]
      simpa using HJ3
     case measure => simp [intOf] <;> omega
    ·have HJx := Lib.hid hJx3
     clear hJx3
     gi_wp2
     refine bodyPost_ret (results_none rfl _ _ _) rfl ?_
     exact ⟨⟨_, rfl⟩, .inr ⟨_, trivial, HJx.out⟩⟩
  ·have hje : k = names.length := by omega
   subst hje
   have hjl : ¬ ((names.length : Int) < (names.length : Int)) := by omega
   gi_wp2
   go_end0
   have hfin := hP.out
   rw [List.take_length] at hfin
   refine ⟨⟨_, rfl⟩, .inl ?_⟩
   first | exact hfin | exact ⟨_, rfl, hfin⟩
theorem belowGrown {W W' : World} (h : Below W.heap.size W W') : W.grownBy W' none := ⟨h.os, h.tape, h.output, h.size, fun k h1 _ => h.block k h1⟩
theorem nums_stops (n : Nat) (hn : 2 ≤ n) (sb : Nat) (v : Value) (names : List Nm) (Fp : Nat → Prop) (hFs : ¬ Fp sb) (hFv : ∀ b o len c, v = .slice (some ⟨b, o, none⟩) len c → ¬ Fp b) (hFg : ∀ k, Fp k → NG ≤ k)
 (hnm : ∀ s ∈ names, s.length ≤ 1000) (hnl : names.length ≤ 1000000) (w : World) (hs : w.cell? ⟨sb, 0, none⟩ = some v) (hv : RdS w v names) (hg : GOk w) :
 SeqStopsK Fence.wide n Tryz.prog 135 #[.pointer (some ⟨sb, 0, none⟩)] (fun x : Int × Nm => #[.int .i64 x.1, .string (strL x.2)]) (Keeps Fp)
  (fun ys => ys = numL names) (fun _ => True) names.length w := fun l J Jx W hW hJ hJx hY h0 => by
 have hs' := (hW.cell (p := ⟨sb, 0, none⟩) (Lib.lt_of_cell hs)).trans hs
 exact nums1_in n hn l sb v names Fp hFs hFv hFg hnm hnl J Jx (fun pre W1 W2 h1 h2 => hJ _ _ _ none h1 (belowGrown h2) (fun r e => by cases e)) hY W hs' (hv.below (Nat.le_refl _) hW) (hg.below hW) h0
theorem numbers_in (n : Nat) (a : Option Addr) (len cap : Nat) (w : World) :
 CallsIn Fence.wide n Tryz.prog 97 #[.slice a len cap] w fun e w' => e = .returned (.func (.func 135) #[] #[.pointer (some ⟨w.heap.size, 0, none⟩)]) ∧ w' = w.alloc (.cells #[.slice a len cap] 27) := by
 refine callsIn_of_wp Tryz.func97 rfl trivial ?_ rfl
 simp only [Tryz.ntmps97, List.size_toArray, List.length_cons, List.length_nil, Nat.reduceAdd, Nat.reduceSub, Array.replicate_succ, Array.replicate_zero, List.push_toArray, List.append_toArray, List.nil_append, List.cons_append]
 gi_wp2
 go_ret
 exact ⟨rfl, rfl⟩
end Go.Proofs.YtffnbkmigapmjaaGreatDoor
